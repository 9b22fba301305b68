/-
  The shelf's contract of slices.SortFunc laid at this program: which functions and types are which. No condition.
-/
import Derived.Test.YthibocafjkbeeaaPart10
import Derived.Shelf.SlSortCmp.WholeK
set_option linter.unusedVariables false
set_option linter.unusedSimpArgs false
namespace Go.Proofs.Ythibocafjkbeeaa
open Go.RowKit

def sortRen : Go.Shelf.Ren := ⟨fun | 6 => 42 | 15 => 63 | 14 => 62 | 28 => 80 | 29 => 81 | 20 => 72 | 21 => 73 | 22 => 74 | 23 => 75 | 24 => 76 | 25 => 77 | 26 => 78 | 27 => 79 | 46 => 85 | 47 => 86 | 48 => 87 | 49 => 88 | 50 => 89 | 57 => 98 | n => n, fun | 22 => 53 | 24 => 51 | 25 => 52 | 3 => 3 | 39 => 100 | 0 => 0 | 53 => 99 | 55 => 32 | 4 => 4 | 46 => 114 | 45 => 113 | 50 => 91 | 5 => 5 | 9 => 9 | 66 => 127 | 70 => 131 | 76 => 139 | 77 => 140 | n => n, fun | n => n⟩
theorem sortLay : Go.Proofs.SlLaysF0.n6 Try.prog sortRen := {
    mixed := (by kernel_rfl),
    f6 := (⟨Try.f42.name, by decide, Try.func42.trans (congrArg some (by kernel_rfl))⟩),
    f14 := (⟨Try.f62.name, by decide, Try.func62.trans (congrArg some (by kernel_rfl))⟩),
    f15 := (Try.func63.trans (congrArg some (by kernel_rfl))),
    f20 := (⟨Try.f72.name, by decide, Try.func72.trans (congrArg some (by kernel_rfl))⟩),
    f21 := (⟨Try.f73.name, by decide, Try.func73.trans (congrArg some (by kernel_rfl))⟩),
    f22 := (⟨Try.f74.name, by decide, Try.func74.trans (congrArg some (by kernel_rfl))⟩),
    f23 := (⟨Try.f75.name, by decide, Try.func75.trans (congrArg some (by kernel_rfl))⟩),
    f24 := (⟨Try.f76.name, by decide, Try.func76.trans (congrArg some (by kernel_rfl))⟩),
    f25 := (⟨Try.f77.name, by decide, Try.func77.trans (congrArg some (by kernel_rfl))⟩),
    f26 := (⟨Try.f78.name, by decide, Try.func78.trans (congrArg some (by kernel_rfl))⟩),
    f27 := (⟨Try.f79.name, by decide, Try.func79.trans (congrArg some (by kernel_rfl))⟩),
    f28 := (Try.func80.trans (congrArg some (by kernel_rfl))),
    f29 := (Try.func81.trans (congrArg some (by kernel_rfl))),
    f46 := (⟨Try.f85.name, by decide, Try.func85.trans (congrArg some (by kernel_rfl))⟩),
    f47 := (Try.func86.trans (congrArg some (by kernel_rfl))),
    f48 := (Try.func87.trans (congrArg some (by kernel_rfl))),
    f49 := (⟨Try.f88.name, by decide, Try.func88.trans (congrArg some (by kernel_rfl))⟩),
    f50 := (⟨Try.f89.name, by decide, Try.func89.trans (congrArg some (by kernel_rfl))⟩),
    f57 := (⟨Try.f98.name, by decide, Try.func98.trans (congrArg some (by kernel_rfl))⟩),
    t0 := (Try.underlying0),
    a0 := (Try.isAgg0),
    z0 := (Try.sizeOf0),
    v0 := (Try.zeroValue0),
    t3 := (Try.underlying3),
    a3 := (Try.isAgg3),
    z3 := (Try.sizeOf3),
    v3 := (Try.zeroValue3),
    t4 := (Try.underlying4),
    a4 := (Try.isAgg4),
    z4 := (Try.sizeOf4),
    v4 := (Try.zeroValue4),
    t5 := (Try.underlying5),
    a5 := (Try.isAgg5),
    z5 := (Try.sizeOf5),
    v5 := (Try.zeroValue5),
    t9 := (Try.underlying9),
    a9 := (Try.isAgg9),
    z9 := (Try.sizeOf9),
    v9 := (Try.zeroValue9),
    t22 := (Try.underlying53),
    a22 := (Try.isAgg53),
    z22 := (Try.sizeOf53),
    v22 := (Try.zeroValue53),
    t25 := (Try.underlying52),
    a25 := (Try.isAgg52),
    z25 := (Try.sizeOf52),
    v25 := (Try.zeroValue52),
    t39 := (Try.underlying100),
    a39 := (Try.isAgg100),
    z39 := (Try.sizeOf100),
    v39 := (Try.zeroValue100),
    t45 := (Try.underlying113),
    a45 := (Try.isAgg113),
    z45 := (Try.sizeOf113),
    v45 := (Try.zeroValue113),
    t46 := (Try.underlying114),
    a46 := (Try.isAgg114),
    z46 := (Try.sizeOf114),
    v46 := (Try.zeroValue114),
    t50 := (Try.underlying91),
    a50 := (Try.isAgg91),
    z50 := (Try.sizeOf91),
    v50 := (Try.zeroValue91),
    t53 := (Try.underlying99),
    a53 := (Try.isAgg99),
    z53 := (Try.sizeOf99),
    v53 := (Try.zeroValue99),
    t55 := (Try.underlying32),
    a55 := (Try.isAgg32),
    z55 := (Try.sizeOf32),
    v55 := (Try.zeroValue32),
    t66 := (Try.underlying127),
    a66 := (Try.isAgg127),
    z66 := (Try.sizeOf127),
    v66 := (Try.zeroValue127),
    t70 := (Try.underlying131),
    a70 := (Try.isAgg131),
    z70 := (Try.sizeOf131),
    v70 := (Try.zeroValue131),
    t76 := (Try.underlying139),
    a76 := (Try.isAgg139),
    z76 := (Try.sizeOf139),
    v76 := (Try.zeroValue139),
    t77 := (Try.underlying140),
    a77 := (Try.isAgg140),
    z77 := (Try.sizeOf140),
    v77 := (Try.zeroValue140) }
end Go.Proofs.Ythibocafjkbeeaa
/-
  The order of vectors with their norms: the plain law, and the closure of vector.SortUnique. No condition but that the arguments can be read.
-/
namespace Go.Proofs.Ythibocafjkbeeaa
open Go.RowKit

theorem ord_flip (x y : Int) : ord y x = -ord x y := by
  unfold ord
  split <;> split <;> (try split) <;> omega
theorem ord_zero {x y : Int} (h : ord x y = 0) : x = y := by
  unfold ord at h
  split at h
  · omega
  · split at h <;> omega
theorem ord_neg {x y : Int} : ord x y < 0 ↔ x < y := by
  unfold ord
  split
  · omega
  · split <;> omega
theorem cmpL_self : ∀ (x : List Int), cmpL x x = 0
  | [] => rfl
  | a :: x => by rw [cmpL, if_pos rfl]; exact cmpL_self x
theorem cmpL_zero : ∀ (x y : List Int), cmpL x y = 0 → x = y
  | [], [], _ => rfl
  | [], _ :: _, h => by simp [cmpL] at h
  | _ :: _, [], h => by simp [cmpL] at h
  | a :: x, b :: y, h => by
    rw [cmpL] at h
    split at h
    · rename_i e; rw [e, cmpL_zero x y h]
    · rename_i e; exact absurd (ord_zero h) e
theorem cmpL_flip : ∀ (x y : List Int), cmpL y x = -cmpL x y
  | [], [] => rfl
  | [], _ :: _ => rfl
  | _ :: _, [] => rfl
  | a :: x, b :: y => by
    rw [cmpL, cmpL]
    by_cases e : a = b
    · rw [if_pos e, if_pos e.symm]; exact cmpL_flip x y
    · rw [if_neg e, if_neg (fun h => e h.symm)]; exact ord_flip a b
theorem cmpL_trans : ∀ (x y z : List Int), cmpL x y < 0 → cmpL y z < 0 → cmpL x z < 0
  | [], [], _, h, _ => by simp [cmpL] at h
  | [], _ :: _, [], _, h => by simp [cmpL] at h
  | [], _ :: _, _ :: _, _, _ => by simp [cmpL]
  | _ :: _, [], _, h, _ => by simp [cmpL] at h
  | _ :: _, _ :: _, [], _, h => by simp [cmpL] at h
  | a :: x, b :: y, c :: z, h, k => by
    rw [cmpL] at h k ⊢
    by_cases e1 : a = b
    · subst e1
      rw [if_pos rfl] at h
      by_cases e2 : a = c
      · rw [if_pos e2] at k ⊢; exact cmpL_trans x y z h k
      · rw [if_neg e2] at k ⊢; exact k
    · rw [if_neg e1] at h
      by_cases e2 : b = c
      · subst e2; rw [if_neg e1]; exact h
      · rw [if_neg e2] at k
        have h1 := ord_neg.1 h
        have h2 := ord_neg.1 k
        rw [if_neg (by omega)]
        exact ord_neg.2 (by omega)
/-- The order of vectors with their norms. -/
def cfV (a b : Int × List Int) : Int := if a.1 = b.1 then cmpL a.2 b.2 else ord a.1 b.1
theorem cfV_self (a : Int × List Int) : cfV a a = 0 := by rw [cfV, if_pos rfl]; exact cmpL_self _
theorem cfV_zero {a b : Int × List Int} (h : cfV a b = 0) : a = b := by
  unfold cfV at h
  split at h
  · rename_i e; exact Prod.ext e (cmpL_zero _ _ h)
  · rename_i e; exact absurd (ord_zero h) e
theorem cfV_flip (a b : Int × List Int) : cfV b a = -cfV a b := by
  unfold cfV
  by_cases e : a.1 = b.1
  · rw [if_pos e, if_pos e.symm]; exact cmpL_flip _ _
  · rw [if_neg e, if_neg (fun h => e h.symm)]; exact ord_flip _ _
theorem cfV_trans {a b c : Int × List Int} (h : cfV a b < 0) (k : cfV b c < 0) : cfV a c < 0 := by
  unfold cfV at *
  by_cases e1 : a.1 = b.1
  · rw [if_pos e1] at h
    by_cases e2 : b.1 = c.1
    · rw [if_pos e2] at k; rw [if_pos (e1.trans e2)]; exact cmpL_trans _ _ _ h k
    · rw [if_neg e2] at k; rw [if_neg (by omega), e1]; exact k
  · rw [if_neg e1] at h
    by_cases e2 : b.1 = c.1
    · rw [← e2, if_neg e1]; exact h
    · rw [if_neg e2] at k
      have h1 := ord_neg.1 h
      have h2 := ord_neg.1 k
      rw [if_neg (by omega)]
      exact ord_neg.2 (by omega)
theorem cfV_ntrans {a b c : Int × List Int} (h : ¬ cfV a b < 0) (k : ¬ cfV b c < 0) : ¬ cfV a c < 0 := by
  intro g
  have f1 := cfV_flip a b
  have f2 := cfV_flip b c
  by_cases e1 : cfV a b = 0
  · rw [cfV_zero e1] at g; exact k g
  · by_cases e2 : cfV b c = 0
    · rw [← cfV_zero e2] at g; exact h g
    · have := cfV_trans (a := c) (b := b) (c := a) (by omega) (by omega)
      have f3 := cfV_flip a c
      omega

/-- A vector with its norm, in memory. -/
structure NmE (w : World) (ok : Nat → Prop) where
  nm : Int
  A : Option Addr
  c : Nat
  xs : List Int
  b1 : -9223372036854775808 ≤ nm ∧ nm ≤ 9223372036854775807
  le : xs.length ≤ c
  le2 : c ≤ 9223372036854775807
  rd : Row Kd.i64 w ok A xs
instance (w : World) (ok : Nat → Prop) : Inhabited (NmE w ok) := ⟨⟨0, none, 0, [], by omega, by simp, by omega, Row.nil _ _ _⟩⟩
def NmE.val {w : World} {ok : Nat → Prop} (x : NmE w ok) : Int × List Int := (x.nm, x.xs)
def NmE.enc {w : World} {ok : Nat → Prop} (x : NmE w ok) : List Value := [.int .i64 x.nm, .slice x.A x.xs.length x.c]
theorem swoN (w : World) (ok : Nat → Prop) : Go.Sort.SWO (ltOf fun x y : NmE w ok => cfV x.val y.val) where
  irrefl x := by simp [ltOf, cfV_self]
  trans x y z h1 h2 := by simp only [ltOf, decide_eq_true_eq] at *; exact cfV_trans h1 h2
  ntrans x y z h1 h2 := by simp only [ltOf, decide_eq_false_iff_not] at *; exact cfV_ntrans h1 h2
theorem grow2 (W : World) (a b : Obj) : (W.alloc a).alloc b = Go.Sort.grow (W.drewN 0) #[a, b] := by
  rw [Go.Sort.alloc_eq_grow, Go.Sort.alloc_eq_grow, Go.Sort.grow_grow]; rfl
theorem cfV_one {a b : Int × List Int} (h : a.1 ≠ b.1) : cmpL [a.1] [b.1] = cfV a b := by
  rw [cfV, if_neg h, cmpL, if_neg h]
set_option maxRecDepth 100000 in
set_option maxHeartbeats 1000000 in
theorem order_raw (ok : Nat → Prop) (n1 n2 : Int) (A1 A2 : Option Addr) (p q c1 c2 : Nat) (xs ys : List Int) (W : World) (hp : p = xs.length) (hq : q = ys.length) (b1 : -9223372036854775808 ≤ n1 ∧ n1 ≤ 9223372036854775807) (b2 : -9223372036854775808 ≤ n2 ∧ n2 ≤ 9223372036854775807) (hx : Row Kd.i64 W ok A1 xs) (hy : Row Kd.i64 W ok A2 ys) :
    Calls Try.prog 24 #[.agg #[.int .i64 n1, .slice A1 p c1], .agg #[.int .i64 n2, .slice A2 q c2]] W fun e w' => e = .returned (.int .i64 (cfV (n1, xs) (n2, ys))) ∧ ∃ q os', w' = Go.Sort.grow (W.drewN q) os' := by
  refine veil fun R HP => ?_
  have HX := Lib.hid hx
  have HY := Lib.hid hy
  have HB1 := Lib.hid b1
  have HB2 := Lib.hid b2
  clear hx hy b1 b2
  have K1 := Lib.hid (Own.new W 51 #[.int .i64 n1, .slice A1 p c1])
  have K2 := Lib.hid (Own.new (W.alloc (.cells #[.int .i64 n1, .slice A1 p c1] 51)) 51 #[.int .i64 n2, .slice A2 q c2])
  have B2 := Lib.hid (ext_alloc (ext_alloc (Below.refl W.heap.size W) (.cells #[.int .i64 n1, .slice A1 p c1] 51)) (.cells #[.int .i64 n2, .slice A2 q c2] 51))
  by_cases he : n1 = n2
  · have HC := Lib.hid (show cfV (n1, xs) (n2, ys) = cmpL xs ys from by rw [cfV, if_pos he])
    rw [HC.out] at HP
    have t1 : (n1 != n2) = false := by simp [he]
    have CC := Lib.hid (vCompare_any ok A1 A2 p q c1 c2 xs ys _ hp hq (HX.out.ext B2.out) (HY.out.ext B2.out))
    clear he hp hq
    go_enter Try.func24, Try.ntmps24
    go_wp2_with (go_at_call 6; refine CC.out.mono ?_; rintro e w' ⟨rfl, rfl⟩)
    exact HP.out _ _ ⟨rfl, 0, _, grow2 _ _ _⟩
  · have HC := Lib.hid (show cmpL [n1] [n2] = cfV (n1, xs) (n2, ys) from cfV_one (a := (n1, xs)) (b := (n2, ys)) he)
    rw [← HC.out] at HP
    have t1 : (n1 != n2) = true := by simpa using he
    clear he hp hq
    go_enter Try.func24, Try.ntmps24
    go_wp2_with fail
    have O3 := (Own.new ((W.alloc (.cells #[.int .i64 n1, .slice A1 p c1] 51)).alloc (.cells #[.int .i64 n2, .slice A2 q c2] 51)) 2 #[.int .i64 n1]).alloc (.cells #[.int .i64 n2] 2)
    have O4 := Own.new (((W.alloc (.cells #[.int .i64 n1, .slice A1 p c1] 51)).alloc (.cells #[.int .i64 n2, .slice A2 q c2] 51)).alloc (.cells #[.int .i64 n1] 2)) 2 #[.int .i64 n2]
    simp only [World.size_alloc] at O3 O4
    have R3 := Own.introw (xs := [n1]) (ok := All) O3 (fun z hz => by rw [List.mem_singleton.1 hz]; exact HB1.out) (by simp) trivial
    have R4 := Own.introw (xs := [n2]) (ok := All) O4 (fun z hz => by rw [List.mem_singleton.1 hz]; exact HB2.out) (by simp) trivial
    have CC := Lib.hid (vCompare_any All _ _ 1 1 1 1 [n1] [n2] _ rfl rfl R3 R4)
    clear O3 O4 R3 R4
    refine CC.out.mono ?_
    rintro e w' ⟨rfl, rfl⟩
    go_wp2
    refine HP.out _ _ ⟨rfl, 0, #[.cells #[.int .i64 n1, .slice A1 p c1] 51, .cells #[.int .i64 n2, .slice A2 q c2] 51, .cells #[.int .i64 n1] 2, .cells #[.int .i64 n2] 2], ?_⟩
    rw [Go.Sort.alloc_eq_grow, Go.Sort.alloc_eq_grow, Go.Sort.alloc_eq_grow, Go.Sort.alloc_eq_grow, Go.Sort.grow_grow, Go.Sort.grow_grow, Go.Sort.grow_grow]
    rfl
end Go.Proofs.Ythibocafjkbeeaa
/-
  slices.SortFunc on vectors with their norms: the row holds a permutation, sorted. Condition: the row is one that the call owns.
-/
namespace Go.Proofs.Ythibocafjkbeeaa
open Go.RowKit

/-- Vectors with their norms. -/
def Kd.nv : Kd (Int × List Int) := Kd.pair Kd.i64 (Kd.slice Kd.i64)
theorem nv_of {w : World} {ok : Nat → Prop} {p : Int × List Int} {cs : List Value} (h : Kd.nv.K w ok p cs) : ∃ e : NmE w ok, e.val = p ∧ e.enc = cs := by
  obtain ⟨c, d, rfl, ⟨rfl, h1, h2⟩, A, q, rfl, h3, h4, h5⟩ := h
  exact ⟨⟨p.1, A, q, p.2, ⟨h1, h2⟩, h3, h4, h5⟩, rfl, rfl⟩
theorem of_nv {w w' : World} {ok : Nat → Prop} (e : NmE w ok) (hk : ∀ b, ok b → b < w.heap.size → w'.heap[b]? = w.heap[b]?) : Kd.nv.K w' ok e.val e.enc :=
  ⟨[.int .i64 e.nm], [.slice e.A e.xs.length e.c], rfl, ⟨rfl, e.b1.1, e.b1.2⟩, e.A, e.c, rfl, e.le, e.le2, e.rd.keep hk⟩
theorem sw_old {α : Type} [Inhabited α] (enc : α → List Value) (k : Nat) (w : World) (blk off m : Nat) (dk : Array α) (os : Array Obj) {b : Nat} (hb : b < w.heap.size) (hne : b ≠ blk) : (sortWorldK enc k w blk off m dk os).heap[b]? = w.heap[b]? := by
  unfold sortWorldK
  rw [Go.Sort.heap_grow_old _ _ (by simpa [Go.Sort.putRowK] using hb)]
  simp [Go.Sort.putRowK, Go.Sort.putRow, Go.Sort.mapBlock, Go.Sort.ahead, Array.getElem?_modify, hne.symm]
theorem sw_at {α : Type} [Inhabited α] (enc : α → List Value) (k : Nat) (w : World) (blk m : Nat) (dk : Array α) (os : Array Obj) {cur : Array Value} {T : TypeId} (h : w.heap[blk]? = some (.cells cur T (0, 0))) : (sortWorldK enc k w blk 0 m dk os).heap[blk]? = some (.cells (Go.Sort.putCells id 0 (Go.Sort.flatK enc k dk) cur) T (0, 0)) := by
  have hlt : blk < w.heap.size := (Array.getElem?_eq_some_iff.1 h).1
  unfold sortWorldK
  rw [Go.Sort.heap_grow_old _ _ (by simpa [Go.Sort.putRowK] using hlt)]
  simp [Go.Sort.putRowK, Go.Sort.putRow, Go.Sort.mapBlock, Go.Sort.ahead, Array.getElem?_modify, h, Go.Sort.onCells]
theorem flat_get {α : Type} [Inhabited α] (enc : α → List Value) (hk : ∀ x, (enc x).length = 2) (d : Array α) (t : Nat) (h : t < d.size * 2) : (Go.Sort.flatK enc 2 d)[t]? = (enc (d[t / 2]!))[t % 2]? := by
  have h1 : (Go.Sort.flatK enc 2 d)[t]? = some (Go.Sort.flatK enc 2 d)[t]! := by
    rw [getElem!_pos _ t (by simpa using h)]
    exact Array.getElem?_eq_getElem _
  rw [h1, Go.Sort.get_flatK _ _ _ t h, getElem!_pos _ (t % 2) (by rw [hk]; omega)]
  exact (List.getElem?_eq_getElem _).symm
theorem ext_all {α : Type} (a : Array α) (n : Nat) (h : a.size = n) : a.extract 0 n = a := by
  subst h
  simp
abbrev NmA (w : World) (ok : Nat → Prop) (g n cap : Nat) : Type := NmE w (fun b => ok b ∧ (Value.slice (some ⟨g, 0, none⟩) n cap).ownBlock ≠ some b)
set_option maxRecDepth 100000 in
set_option maxHeartbeats 2000000 in
theorem SortFunc_any (base : Nat) (ok : Nat → Prop) (g n cap : Nat) (items : List (Int × List Int)) (w : World) (hn : n = items.length) (hsz : n < 4611686018427387904) (hG : Grow Kd.nv w base 51 ok (.slice (some ⟨g, 0, none⟩) n cap) items) :
    Calls Try.prog 42 #[.slice (some ⟨g, 0, none⟩) n cap, .func (.func 24) #[] #[]] w fun e w' => e = .returned (.tuple #[]) ∧ ∃ items', items'.Perm items ∧ (∀ i j, i < j → j < n → ¬ cfV (nth items' j) (nth items' i) < 0) ∧ Grow Kd.nv w' base 51 ok (.slice (some ⟨g, 0, none⟩) n cap) items' ∧ w.grownBy w' (some g) := by
  subst hn
  obtain ⟨cs, hown, hel⟩ := hG.out
  have hsize : Kd.nv.size = 2 := rfl
  rw [hsize] at hown hel
  have hcl : cs.length = items.length * 2 := hown.1
  have hex : ∀ i : Nat, ∃ e : NmA w ok g items.length cap, i < items.length → e.val = nth items i ∧ e.enc = (cs.drop (i * 2)).take 2 := by
    intro i
    by_cases hi : i < items.length
    · obtain ⟨e, h1, h2⟩ := nv_of (hel i hi)
      exact ⟨e, fun _ => ⟨by rw [h1, nth_eq _ _ hi], h2⟩⟩
    · exact ⟨default, fun h => absurd h hi⟩
  obtain ⟨el, hel2⟩ := Classical.axiomOfChoice hex
  obtain ⟨d, hd⟩ : ∃ d : Array _, d = ((List.range items.length).map el).toArray := ⟨_, rfl⟩
  have hds : d.size = items.length := by rw [hd]; simp
  have hdi : ∀ i, i < items.length → d[i]! = el i := fun i hi => by
    rw [getElem!_pos d i (by rw [hds]; exact hi)]
    simp [hd]
  have hvals : d.toList.map NmE.val = items := by
    apply List.ext_getElem
    · simp [hds]
    · intro i h1 h2
      rw [List.getElem_map, Array.getElem_toList]
      have := hdi i h2
      rw [getElem!_pos d i (by rw [hds]; exact h2)] at this
      rw [this, (hel2 i h2).1, nth_eq _ _ h2]
  have hk : ∀ x : NmA w ok g items.length cap, x.enc.length = 2 := fun _ => rfl
  have h1 : ∀ x : NmA w ok g items.length cap, ∀ v ∈ x.enc, v.oneCell' = true := fun x v hv => by
    simp only [NmE.enc, List.mem_cons, List.not_mem_nil, or_false] at hv
    rcases hv with rfl | rfl <;> rfl
  have hcs : ∀ t, t < items.length * 2 → (Go.Sort.flatK NmE.enc 2 d)[t]? = cs[t]? := fun t ht => by
    have hi : t / 2 < items.length := by omega
    rw [flat_get _ hk _ _ (by rw [hds]; exact ht), hdi _ hi, (hel2 _ hi).2, List.getElem?_take_of_lt (by omega), List.getElem?_drop]
    congr 1
    omega
  have hH : Go.Sort.HoldsK NmE.enc 2 w g 0 d := by
    intro t ht
    have ht2 : t < items.length * 2 := by rw [← hds]; simpa using ht
    rw [Nat.zero_add]
    refine ⟨?_, hown.frozenAt t⟩
    rw [hown.cellAt t ht2, ← hcs t ht2, Array.getElem?_eq_getElem ht, getElem!_pos _ t ht]
    rfl
  have hgl := hown.lt g rfl
  obtain ⟨cur, hcur, hcc, hnc, hcm⟩ : ∃ cur, w.heap[g]? = some (.cells cur 51 (0, 0)) ∧ cur.size = cap * 2 ∧ items.length ≤ cap ∧ cap ≤ maxLen := by
    rcases hown.2 with ⟨h, _⟩ | ⟨g', cap', cur, h, hb, hg, hnc, hcm, hcs, ht⟩
    · cases h
    · simp only [Value.slice.injEq, Option.some.injEq, Addr.mk.injEq, and_true, true_and] at h
      obtain ⟨rfl, rfl⟩ := h
      exact ⟨cur, hg, hcs, hnc, hcm⟩
  have hkeep : ∀ (m : Nat) (os : Array Obj) (dk : Array (NmA w ok g items.length cap)) (b : Nat), (ok b ∧ (Value.slice (some ⟨g, 0, none⟩) items.length cap).ownBlock ≠ some b) → b < w.heap.size → (sortWorldK NmE.enc 2 w g 0 m dk os).heap[b]? = w.heap[b]? := fun m os dk b hb hl =>
    sw_old _ _ _ _ _ _ _ _ hl fun e => hb.2 (by rw [e]; rfl)
  have eg : ∀ args W, (callFunc 24 args).run Try.prog W = .ok (.enter 24 args) W := fun args W => enters' Try.func24 rfl rfl args W
  have hcmp : CmpLays Try.prog 24 #[] NmE.enc 2 (fun x y : NmA w ok g items.length cap => cfV x.val y.val) g 0 d.size w := by
    intro m os dk hs x y
    rw [Array.append_empty]
    exact order_raw _ x.nm y.nm x.A y.A _ _ x.c y.c x.xs y.xs _ rfl rfl x.b1 y.b1 (x.rd.keep (hkeep m os dk)) (y.rd.keep (hkeep m os dk))
  have hcon := AnyQ.slices_SortFunc sortLay 2 Try.isAgg51 Try.sizeOf51 NmE.enc hk h1 (fun x y : NmA w ok g items.length cap => cfV x.val y.val) (swoN _ _) 24 #[] g 0 cap d w eg hcmp hH hgl.2 (by rw [hds]; exact hsz)
  rw [hds] at hcon
  refine Calls.mono hcon ?_
  rintro e w' ⟨rfl, d', m, os, hp, hso, rfl⟩
  have hds' : d'.size = items.length := by rw [hp.1, hds]
  have hl' : (d'.toList.map NmE.val).length = items.length := by simp [hds']
  have hnth : ∀ i, i < items.length → nth (d'.toList.map NmE.val) i = d'[i]!.val := fun i hi => by
    rw [nth_eq _ _ (by rw [hl']; exact hi), List.getElem_map, Array.getElem_toList, getElem!_pos d' i (by rw [hds']; exact hi)]
  refine ⟨rfl, d'.toList.map NmE.val, ?_, ?_, ?_, ?_⟩
  · have h3 := hp.2.2
    rw [ext_all d' _ hds', ext_all d _ hds] at h3
    rw [← hvals]
    exact h3.map _
  · intro i j hij hj
    have := hso i j (Nat.zero_le _) hij hj
    simp only [ltOf, decide_eq_false_iff_not] at this
    rw [hnth i (by omega), hnth j hj]
    exact this
  · have hfl : ∀ t, t < items.length * 2 → (Go.Sort.flatK NmE.enc 2 d')[t]? = ((d'[t / 2]!).enc)[t % 2]? := fun t ht => flat_get _ hk _ _ (by rw [hds']; exact ht)
    have hfs : (Go.Sort.flatK NmE.enc 2 d').toList.length = items.length * 2 := by simp [hds']
    refine ⟨(Go.Sort.flatK NmE.enc 2 d').toList, ⟨by rw [hl']; exact hfs, .inr ⟨g, cap, _, by rw [hl'], hgl.1, sw_at _ _ _ _ _ _ _ hcur, by rw [hl']; exact hnc, hcm, ?_, ?_⟩⟩, fun i hi => ?_⟩
    · simp [Go.Sort.putCells, hcc, hsize]
    · apply List.ext_getElem?
      intro t
      rw [hl', hsize]
      by_cases ht : t < items.length * 2
      · rw [List.getElem?_take_of_lt ht, Array.getElem?_toList, Array.getElem?_toList]
        unfold Go.Sort.putCells
        have htc : t < cur.size := by rw [hcc]; have := Nat.mul_le_mul_right 2 hnc; omega
        rw [Array.getElem?_mapIdx, Array.getElem?_eq_getElem htc, Option.map_some, if_pos ⟨Nat.zero_le _, by simp [hds']; omega⟩, Nat.sub_zero, getElem!_pos _ t (by simp [hds']; omega)]
        exact (Array.getElem?_eq_getElem _).symm
      · rw [List.getElem?_eq_none (by rw [List.length_take]; omega), List.getElem?_eq_none (by omega)]
    · rw [hl'] at hi
      have h5 : (d'.toList.map NmE.val)[i]'(by rw [hl']; exact hi) = d'[i]!.val := by rw [← hnth i hi, nth_eq _ _ (by rw [hl']; exact hi)]
      rw [h5]
      have h6 : (((Go.Sort.flatK NmE.enc 2 d').toList.drop (i * Kd.nv.size)).take Kd.nv.size) = d'[i]!.enc := by
        rw [hsize]
        apply List.ext_getElem?
        intro t
        by_cases ht : t < 2
        · rw [List.getElem?_take_of_lt ht, List.getElem?_drop, Array.getElem?_toList, hfl _ (by omega)]
          rw [show (i * 2 + t) / 2 = i from by omega, show (i * 2 + t) % 2 = t from by omega]
        · rw [List.getElem?_eq_none (by rw [List.length_take]; omega), List.getElem?_eq_none (by rw [hk]; omega)]
      rw [h6]
      exact of_nv (w' := sortWorldK NmE.enc 2 w g 0 m d' os) d'[i]! (hkeep m os d')
  · refine ⟨rfl, rfl, rfl, ?_, fun b hb hne => sw_old _ _ _ _ _ _ _ _ hb fun e => hne (by rw [e])⟩
    simp [sortWorldK, Go.Sort.grow, Go.Sort.putRowK, Go.Sort.putRow, Go.Sort.mapBlock, Go.Sort.ahead]
end Go.Proofs.Ythibocafjkbeeaa
