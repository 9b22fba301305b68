/-
  A block of memory that the call itself made and writes: what it holds, and how that lives on. No condition: plain definitions and theorems.
-/
import Derived.Test.YthibocafjkbeeaaPart02
import Derived.Deep.OwnRows
set_option linter.unusedVariables false
set_option linter.unusedSimpArgs false
namespace Go.Proofs.Ythibocafjkbeeaa
open Go.RowKit

/-- Block g holds just these cells of type t, and may be written. -/
def Own (w : World) (g : Nat) (t : TypeId) (vs : List Value) : Prop := w.heap[g]? = some (.cells vs.toArray t (0, 0))
section
variable {w w' : World} {g : Nat} {t : TypeId} {vs : List Value}
theorem Own.lt (h : Own w g t vs) : g < w.heap.size := by
  rcases Nat.lt_or_ge g w.heap.size with hl | hg
  · exact hl
  · unfold Own at h; rw [Array.getElem?_eq_none hg] at h; cases h
theorem Own.cell (h : Own w g t vs) (i : Nat) : w.cell? ⟨g, i, none⟩ = vs[i]? := by
  rw [cell_of_row w g i vs.toArray t (0, 0) h]; simp
theorem Own.free (h : Own w g t vs) (i : Nat) : w.frozen? ⟨g, i, none⟩ = false := by unfold Own at h; simp [World.frozen?, h]
theorem Own.new (w : World) (t : TypeId) (cs : Array Value) : Own (w.alloc (.cells cs t)) w.heap.size t cs.toList := by unfold Own; rw [heap_alloc_new w]
theorem Own.keep (h : Own w g t vs) (hk : w'.heap[g]? = w.heap[g]?) : Own w' g t vs := hk.trans h
theorem Own.ext (h : Own w g t vs) (hb : Below w.heap.size w w') : Own w' g t vs := h.keep (hb.block g h.lt)
theorem Own.drewN (h : Own w g t vs) (n : Nat) : Own (w.drewN n) g t vs := h
theorem Own.drew (h : Own w g t vs) : Own w.drew g t vs := h
theorem Own.set_ (h : Own w g t vs) (i : Nat) (u : Value) : Own (w.setCell ⟨g, i, none⟩ u) g t (vs.set i u) := by
  unfold Own at h ⊢
  simp [World.setCell, Array.getElem?_modify, h]
theorem Own.far (h : Own w g t vs) {p : Addr} (hp : g ≠ p.block) (u : Value) : Own (w.setCell p u) g t vs := h.keep (Below.heap_setCell w p u g hp)
theorem Own.alloc (h : Own w g t vs) (o : Obj) : Own (w.alloc o) g t vs := h.ext (ext_alloc (Below.refl _ _) o)
end
/-- A row that the call's own block holds. -/
theorem Own.row {α : Type} {k : Kd α} {w : World} {g : Nat} {t : TypeId} {vs : List Value} {ok : Nat → Prop} (h : Own w g t vs) (xs : List α) (hl : xs.length ≤ 9223372036854775807) (hok : ok g)
    (hx : ∀ (i : Nat) (hi : i < xs.length), ∃ cs, k.K w ok xs[i] cs ∧ ∀ j u, cs[j]? = some u → vs[i * k.size + j]? = some u) : Row k w ok (some ⟨g, 0, none⟩) xs := by
  refine ⟨hl, fun _ => ⟨_, rfl, hok, h.lt, fun i hi => ?_⟩⟩
  obtain ⟨cs, hK, hc⟩ := hx i hi
  refine ⟨cs, hK, fun j u hu => ?_⟩
  have : (⟨g, 0, none⟩ : Addr).add (i * k.size + j) = ⟨g, i * k.size + j, none⟩ := by unfold Addr.add; split <;> simp_all
  rw [this, h.cell]
  exact hc j u hu
/-- The cells of limbs. -/
def limbs (xs : List Nat) : List Value := xs.map fun x : Nat => .int .u32 (x : Int)
theorem limbs_length (xs : List Nat) : (limbs xs).length = xs.length := by simp [limbs]
theorem limbs_set (xs : List Nat) (i x : Nat) : (limbs xs).set i (.int .u32 (x : Int)) = limbs (xs.set i x) := by simp [limbs, List.map_set]
theorem limbs_at (xs : List Nat) (i : Nat) (h : i < xs.length) : (limbs xs)[i]? = some (.int .u32 ((nth xs i : Nat) : Int)) := by
  rw [limbs, List.getElem?_map, nth_get? xs i h]; rfl
/-- A block of limbs. -/
def OwnL (w : World) (g : Nat) (xs : List Nat) : Prop := Own w g 99 (limbs xs) ∧ ∀ x ∈ xs, x < 4294967296
section
variable {w w' : World} {g : Nat} {xs : List Nat}
theorem OwnL.cell (h : OwnL w g xs) {i : Nat} (hi : i < xs.length) : w.cell? ⟨g, i, none⟩ = some (.int .u32 ((nth xs i : Nat) : Int)) := by rw [h.1.cell, limbs_at xs i hi]
theorem OwnL.free (h : OwnL w g xs) (i : Nat) : w.frozen? ⟨g, i, none⟩ = false := h.1.free i
theorem OwnL.limb_lt (h : OwnL w g xs) (i : Nat) : nth xs i < 4294967296 := by
  rcases Nat.lt_or_ge i xs.length with hi | hi
  · rw [nth_eq xs i hi]; exact h.2 _ (List.getElem_mem hi)
  · simp [nth, List.getD_eq_getElem?_getD, List.getElem?_eq_none hi]
theorem OwnL.ext (h : OwnL w g xs) (hb : Below w.heap.size w w') : OwnL w' g xs := ⟨h.1.ext hb, h.2⟩
theorem OwnL.set_ (h : OwnL w g xs) (i : Nat) (u : Nat) (hu : u < 4294967296) : OwnL (w.setCell ⟨g, i, none⟩ (.int .u32 (u : Int))) g (xs.set i u) :=
  ⟨by rw [← limbs_set]; exact h.1.set_ i _, fun x hx => by rcases List.mem_or_eq_of_mem_set hx with h1 | h1; exact h.2 _ h1; exact h1 ▸ hu⟩
theorem OwnL.row {ok : Nat → Prop} (h : OwnL w g xs) (hl : xs.length ≤ 9223372036854775807) (hok : ok g) : Row Kd.u32 w ok (some ⟨g, 0, none⟩) xs :=
  h.1.row (k := Kd.u32) xs hl hok fun i hi => ⟨[.int .u32 ((xs[i] : Nat) : Int)], ⟨rfl, h.2 _ (List.getElem_mem hi)⟩, fun j u hu => by
    cases j with
    | zero => rw [show i * Kd.u32.size + 0 = i from by simp [Kd.u32], limbs_at xs i hi, nth_eq xs i hi]; simpa using hu
    | succ j => simp at hu⟩
end
theorem made_toList (z : Value) (n : Nat) : (madeCells #[z] n).toList = List.replicate n z := toList_madeCells_one z n
theorem OwnL.made (w : World) (n : Nat) : OwnL (w.alloc (.cells (madeCells #[.int .u32 0] n) 99)) w.heap.size (List.replicate n 0) := by
  refine ⟨?_, fun x hx => by rw [List.eq_of_mem_replicate hx]; omega⟩
  have := Own.new w 99 (madeCells #[.int .u32 0] n)
  rw [made_toList] at this
  simpa [limbs] using this
theorem info_u32 : (Try.prog.info? 99).map (fun i => (i.zero, i.size, i.bytes)) = some (some (.int .u32 0), 1, 4) := by kernel_rfl
theorem make_limbs (n : Nat) (h : n ≤ 70368744177664) (W : World) : (Instr.makeSlice 57 (.int .i64 (n : Int)) (.int .i64 (n : Int))).run Try.prog W = .ok (.slice (some ⟨W.heap.size, 0, none⟩) n n) (W.alloc (.cells (madeCells #[.int .u32 0] n) 99)) :=
  run_make_row' 57 99 (.int .u32 0) 4 Try.underlying57 info_u32 rfl .i64 .i64 n (by omega) (by omega) W
theorem max2_int (k k' : IntKind) (x y : Int) : Builtin.max2 (.int k x) (.int k' y) = pure (.int k (if x < y then y else x)) := by simp only [Builtin.max2, gt_iff_lt]
theorem min2_int (k k' : IntKind) (x y : Int) : Builtin.min2 (.int k x) (.int k' y) = pure (.int k (if y < x then y else x)) := by simp only [Builtin.min2]
theorem max_two (ats : Array TypeId) (ty : TypeId) (a b : Value) : Builtin.max_ ats ty #[a, b] = (Builtin.max2 a b >>= fun s => pure s) := by simp only [Builtin.max_, List.foldlM_cons, List.foldlM_nil]
theorem min_two (ats : Array TypeId) (ty : TypeId) (a b : Value) : Builtin.min_ ats ty #[a, b] = (Builtin.min2 a b >>= fun s => pure s) := by simp only [Builtin.min_, List.foldlM_cons, List.foldlM_nil]
end Go.Proofs.Ythibocafjkbeeaa
/-
  integer.limb, integer.plus, integer.minus, integer.times: what they return. Condition: the lists of limbs are shorter than a given bound.
-/
namespace Go.Proofs.Ythibocafjkbeeaa
open Go.RowKit

/-- The longest list of limbs that is spoken of. -/
def lim : Nat := 1099511627776

theorem limb_any (ok : Nat → Prop) (A : Option Addr) (n c : Nat) (xs : List Nat) (i : Nat) (w : World) (hn : n = xs.length) (h : Row Kd.u32 w ok A xs) :
    Calls Try.prog 71 #[.slice A n c, .int .i64 (i : Int)] w fun e w' => e = .returned (.int .u64 ((nth xs i : Nat) : Int)) ∧ w = w' := by
  refine veil fun R HP => ?_
  have HR := Lib.hid h
  have HN := Lib.hid hn
  clear h hn
  by_cases hi : i < n
  · obtain ⟨ad, rfl, c1, l1⟩ := HR.out.limb (i := i) (by have := HN.out; omega)
    have D := Lib.hid (show R (.returned (.int .u64 ((nth xs i : Nat) : Int))) w from HP.out _ _ ⟨rfl, rfl⟩)
    go_enter Try.func71, Try.ntmps71
    go_wp2
    exact D.out
  · have D := Lib.hid (show R (.returned (.int .u64 0)) w from HP.out _ _ ⟨by
      rw [show nth xs i = 0 from by simp [nth, List.getD_eq_getElem?_getD, List.getElem?_eq_none (show xs.length ≤ i by have := HN.out; omega)]]; rfl, rfl⟩)
    go_enter Try.func71, Try.ntmps71
    go_wp2
    exact D.out

theorem nth_over (xs : List Nat) (i : Nat) (h : xs.length ≤ i) : nth xs i = 0 := by simp [nth, List.getD_eq_getElem?_getD, List.getElem?_eq_none h]
theorem val_take_step (xs : List Nat) (i : Nat) : val (xs.take (i + 1)) = val (xs.take i) + 4294967296 ^ i * nth xs i := by
  rcases Nat.lt_or_ge i xs.length with h | h
  · exact val_take_succ xs i h
  · rw [nth_over xs i h, List.take_of_length_le (by omega), List.take_of_length_le h]; rfl
theorem take_set_lt (xs : List Nat) (i x : Nat) : (xs.set i x).take i = xs.take i := by
  rw [List.take_set]; exact List.set_eq_of_length_le (by simp; omega)
theorem nth_set_same (xs : List Nat) (i x : Nat) (h : i < xs.length) : nth (xs.set i x) i = x := by
  simp [nth, List.getD_eq_getElem?_getD, h]
theorem nth_set_other {α : Type} [Inhabited α] (xs : List α) (i j : Nat) (x : α) (h : i ≠ j) : nth (xs.set i x) j = nth xs j := by
  simp [nth, List.getD_eq_getElem?_getD, List.getElem?_set_ne h]
theorem val_set_take (xs : List Nat) (i x : Nat) (h : i < xs.length) : val ((xs.set i x).take (i + 1)) = val (xs.take i) + 4294967296 ^ i * x := by
  rw [val_take_step, take_set_lt, nth_set_same xs i x h]
/-- A round of an addition. -/
theorem plus_round (xs us vs : List Nat) (k c : Nat) (hk : k < xs.length) (hv : val (xs.take k) + 4294967296 ^ k * c = val (us.take k) + val (vs.take k)) :
    val ((xs.set k ((c + (nth us k + nth vs k)) % 4294967296)).take (k + 1)) + 4294967296 ^ (k + 1) * ((c + (nth us k + nth vs k)) / 4294967296) = val (us.take (k + 1)) + val (vs.take (k + 1)) := by
  rw [val_set_take _ _ _ hk, val_take_step us, val_take_step vs, Nat.pow_succ, Nat.mul_assoc]
  have h := Nat.div_add_mod (c + (nth us k + nth vs k)) 4294967296
  have h2 : 4294967296 ^ k * ((c + (nth us k + nth vs k)) % 4294967296) + 4294967296 ^ k * (4294967296 * ((c + (nth us k + nth vs k)) / 4294967296)) = 4294967296 ^ k * c + 4294967296 ^ k * nth us k + 4294967296 ^ k * nth vs k := by
    rw [← Nat.mul_add, ← Nat.mul_add, ← Nat.mul_add]
    congr 1
    omega
  omega

set_option maxHeartbeats 400000 in
theorem plus_any (ok : Nat → Prop) (A B : Option Addr) (la lb c d m n : Nat) (w : World) (ha : la = (dig m).length) (hb : lb = (dig n).length) (hc : la ≤ lim) (hd : lb ≤ lim) (hA : Row Kd.u32 w ok A (dig m)) (hB : Row Kd.u32 w ok B (dig n)) :
    Calls Try.prog 59 #[.slice A la c, .slice B lb d] w fun e w' => ∃ A' l, (l = (dig (m + n)).length ∧ Row Kd.u32 w' (Up ok w.heap.size) A' (dig (m + n))) ∧ e = .returned (.slice A' l l) ∧ Below w.heap.size w w' := by
  refine veil fun R HP => ?_
  have HA := Lib.hid hA
  have HB := Lib.hid hB
  have EA := Lib.hid ha
  have EB := Lib.hid hb
  clear hA hB ha hb
  obtain ⟨N, hN⟩ : ∃ N, N = max la lb := ⟨_, rfl⟩
  have hmx : ∀ ats ty, Builtin.max_ ats ty #[.int .i64 (la : Int), .int .i64 (lb : Int)] = pure (.int .i64 (N : Int)) := fun ats ty => by
    rw [max_two, max2_int, hN]
    simp only [pure_bind]
    congr 2
    split <;> omega
  have hNl : N ≤ lim := by omega
  have EN := Lib.hid hN
  clear hN
  unfold lim at hc hd hNl
  have hmk : ∀ W : World, (Instr.makeSlice 57 (.int .i64 ((N : Int) + 1)) (.int .i64 ((N : Int) + 1))).run Try.prog W = .ok (.slice (some ⟨W.heap.size, 0, none⟩) (N + 1) (N + 1)) (W.alloc (.cells (madeCells #[.int .u32 0] (N + 1)) 99)) := fun W => by
    have := make_limbs (N + 1) (by omega) W
    simpa using this
  go_enter Try.func59, Try.ntmps59
  go_wp2
  clear hmx hmk
  go_loopw [7, 18] (fun v i w' => ∃ (k cy : Nat) (xs : List Nat), k ≤ N ∧ cy ≤ 1 ∧ v = .int .u64 (cy : Int) ∧ i = .int .i64 (k : Int) ∧ Hid (xs.length = N + 1 ∧ OwnL w' w.heap.size xs ∧ Below w.heap.size w w' ∧ val (xs.take k) + 4294967296 ^ k * cy = val ((dig m).take k) + val ((dig n).take k))) (fun _ i _ => N - (intOf i).toNat)
  case atStart => exact ⟨0, 0, List.replicate (N + 1) 0, by omega, by omega, rfl, rfl, by simp, OwnL.made _ _, ext_alloc (Below.refl _ _) _, by simp [val]⟩
  case round =>
    obtain ⟨k, cy, xs, hk, hcy, rfl, rfl, HI⟩ := hrel
    by_cases hlt : k < N
    · have hx1 := HA.out.limb_lt k
      have hx2 := HB.out.limb_lt k
      have HE := Lib.hid HI.out.2.2.1
      have hcell := HI.out.2.1.cell (i := k) (by have := HI.out.1; omega)
      have hfree := HI.out.2.1.free k
      go_wp2_with fail
      refine (limb_any ok A la c (dig m) k _ EA.out (HA.out.ext HE.out)).mono ?_
      rintro e w1 ⟨rfl, rfl⟩
      go_wp2_with fail
      refine (limb_any ok B lb d (dig n) k _ EB.out (HB.out.ext HE.out)).mono ?_
      rintro e w1 ⟨rfl, rfl⟩
      go_wp2
      have e1 : ((cy : Int) + ((nth (dig m) k : Nat) + (nth (dig n) k : Nat))) % 4294967296 = (((cy + (nth (dig m) k + nth (dig n) k)) % 4294967296 : Nat) : Int) := by omega
      have e2 : ((cy : Int) + ((nth (dig m) k : Nat) + (nth (dig n) k : Nat))) / 4294967296 = (((cy + (nth (dig m) k + nth (dig n) k)) / 4294967296 : Nat) : Int) := by omega
      rw [e1, e2]
      obtain ⟨h1, h2, h3, h4⟩ := HI.out
      exact ⟨⟨k + 1, _, xs.set k ((cy + (nth (dig m) k + nth (dig n) k)) % 4294967296), by omega, by omega, rfl, rfl, by rw [List.length_set]; exact h1, h2.set_ k _ (by omega), ext_set h3 (Nat.le_refl _) _, plus_round _ _ _ _ _ (by omega) h4⟩, by simp [intOf]; omega⟩
    · obtain rfl : k = N := by omega
      have HE := Lib.hid HI.out.2.2.1
      have hcell := HI.out.2.1.cell (i := k) (by have := HI.out.1; omega)
      have hfree := HI.out.2.1.free k
      have e1 : ((cy : Int)) % 4294967296 = (cy : Int) := by omega
      have hv : val (xs.set k cy) = m + n := by
        obtain ⟨h1, h2, h3, h4⟩ := HI.out
        have := val_set_take xs k cy (by omega)
        rw [List.take_of_length_le (by simp; omega)] at this
        rw [this, h4, val_take_all _ _ (by have := EA.out; have := EN.out; omega), val_take_all _ _ (by have := EB.out; have := EN.out; omega), val_dig, val_dig]
      have HV := Lib.hid hv
      clear hv
      go_wp2_with fail
      have hr := (HI.out.2.1.set_ k cy (by omega)).row (ok := Up ok w.heap.size) (by rw [List.length_set]; have := HI.out.1; omega) (.inr (Nat.le_refl _))
      refine (trim_calls (Up ok w.heap.size) _ _ _ (xs.set k cy) _ (by rw [List.length_set]; exact HI.out.1.symm) (Nat.le_refl _) hr).mono ?_
      clear hr
      rintro e w1 ⟨l, hl, rfl, rfl⟩
      rw [HV.out] at hl
      have HL := Lib.hid hl
      clear hl
      go_wp2
      exact HP.out _ _ ⟨_, l, HL.out.2, rfl, ext_set HE.out (Nat.le_refl _) _⟩

/-- A round of a subtraction. -/
theorem minus_round (xs us vs : List Nat) (k b r b' : Nat) (hk : k < xs.length) (hr : r + (nth vs k + b) = nth us k + 4294967296 * b')
    (hv : val (xs.take k) + val (vs.take k) = val (us.take k) + 4294967296 ^ k * b) :
    val ((xs.set k r).take (k + 1)) + val (vs.take (k + 1)) = val (us.take (k + 1)) + 4294967296 ^ (k + 1) * b' := by
  rw [val_set_take _ _ _ hk, val_take_step us, val_take_step vs, Nat.pow_succ, Nat.mul_assoc]
  have h2 : 4294967296 ^ k * r + (4294967296 ^ k * nth vs k + 4294967296 ^ k * b) = 4294967296 ^ k * nth us k + 4294967296 ^ k * (4294967296 * b') := by
    rw [← Nat.mul_add, ← Nat.mul_add, ← Nat.mul_add, hr]
  omega

theorem sub_wrap (a b c : Nat) (ha : a < 4294967296) (hb : b < 4294967296) (hc : c ≤ 1) : ∃ r b' : Nat, b' ≤ 1 ∧ r < 4294967296 ∧ IntKind.u64.wrap (IntKind.u64.wrap ((a : Int) - b) - c) / 9223372036854775808 = (b' : Int) ∧
    IntKind.u64.wrap (IntKind.u64.wrap ((a : Int) - b) - c) % 4294967296 = (r : Int) ∧ r + (b + c) = a + 4294967296 * b' := by
  have hw : ∀ x : Int, IntKind.u64.wrap x = x % 18446744073709551616 := fun x => by rw [IntKind.wrap_u64]
  rw [hw, hw]
  rcases Nat.lt_or_ge a (b + c) with h | h
  · exact ⟨a + 4294967296 - b - c, 1, by omega, by omega, by omega, by omega, by omega⟩
  · exact ⟨a - b - c, 0, by omega, by omega, by omega, by omega, by omega⟩

set_option maxHeartbeats 400000 in
theorem minus_any (ok : Nat → Prop) (A B : Option Addr) (la lb c d m n : Nat) (w : World) (hmn : n ≤ m) (ha : la = (dig m).length) (hb : lb = (dig n).length) (hc : la ≤ lim) (hA : Row Kd.u32 w ok A (dig m)) (hB : Row Kd.u32 w ok B (dig n)) :
    Calls Try.prog 60 #[.slice A la c, .slice B lb d] w fun e w' => ∃ A' l, (l = (dig (m - n)).length ∧ Row Kd.u32 w' (Up ok w.heap.size) A' (dig (m - n))) ∧ e = .returned (.slice A' l l) ∧ Below w.heap.size w w' := by
  refine veil fun R HP => ?_
  have HA := Lib.hid hA
  have HB := Lib.hid hB
  have EA := Lib.hid ha
  have EB := Lib.hid hb
  have HM := Lib.hid hmn
  clear hA hB ha hb hmn
  unfold lim at hc
  have hmk := make_limbs la (by omega)
  go_enter Try.func60, Try.ntmps60
  go_wp2
  clear hmk
  go_loopw [6, 14] (fun v i w' => ∃ (k b : Nat) (xs : List Nat), k ≤ la ∧ b ≤ 1 ∧ v = .int .u64 (b : Int) ∧ i = .int .i64 (k : Int) ∧ Hid (xs.length = la ∧ OwnL w' w.heap.size xs ∧ Below w.heap.size w w' ∧ val (xs.take k) + val ((dig n).take k) = val ((dig m).take k) + 4294967296 ^ k * b)) (fun _ i _ => la - (intOf i).toNat)
  case atStart => exact ⟨0, 0, List.replicate la 0, by omega, by omega, rfl, rfl, by simp, OwnL.made _ _, ext_alloc (Below.refl _ _) _, by simp [val]⟩
  case round =>
    obtain ⟨k, b, xs, hk, hcy, rfl, rfl, HI⟩ := hrel
    by_cases hlt : k < la
    · have hx2 := HB.out.limb_lt k
      have HE := Lib.hid HI.out.2.2.1
      have hcell := HI.out.2.1.cell (i := k) (by have := HI.out.1; omega)
      have hfree := HI.out.2.1.free k
      obtain ⟨ad, rfl, c1, l1⟩ := (HA.out.ext HE.out).limb (i := k) (by have := EA.out; omega)
      have i1 : (0 : Int) ≤ (k : Int) := by omega
      have i2 : (k : Int) < (la : Int) := by omega
      go_wp2
      go_quiet ((go_at_call 71; refine (limb_any ok B lb d (dig n) k _ EB.out (HB.out.ext (ext_drewN HE.out _))).mono ?_; rintro e w1 ⟨rfl, rfl⟩; exact ⟨rfl, _, rfl⟩))
      go_wp2
      obtain ⟨r, b', hb', hr, e1, e2, h5⟩ := sub_wrap (nth (dig m) k) (nth (dig n) k) b l1 hx2 hcy
      rw [e1, e2]
      obtain ⟨h1, h2, h3, h4⟩ := HI.out
      exact ⟨⟨k + 1, b', xs.set k r, by omega, hb', rfl, rfl, by rw [List.length_set]; exact h1, OwnL.set_ (w := wr.drewN nq) h2 k r hr, ext_set (ext_drewN h3 nq) (Nat.le_refl _) _, minus_round _ _ _ _ _ _ _ (by omega) h5 h4⟩, by simp [intOf]; omega⟩
    · obtain rfl : k = la := by omega
      have HE := Lib.hid HI.out.2.2.1
      have hv : val xs = m - n := by
        obtain ⟨h1, h2, h3, h4⟩ := HI.out
        have hl := dig_mono n m HM.out
        rw [val_take_all _ _ (by omega), val_take_all (dig m) _ (by have := EA.out; omega), val_take_all (dig n) _ (by have := EA.out; omega), val_dig, val_dig] at h4
        have hmn := HM.out
        have h5 := val_lt xs h2.2
        rw [h1] at h5
        have h6 := dig_lt_pow m
        rw [← EA.out] at h6
        rcases Nat.eq_zero_or_pos b with h0 | h0
        · rw [h0] at h4; omega
        · have h7 : b = 1 := by omega
          rw [h7] at h4
          omega
      have HV := Lib.hid hv
      clear hv
      go_wp2_with fail
      have hr := HI.out.2.1.row (ok := Up ok w.heap.size) (by have := HI.out.1; omega) (.inr (Nat.le_refl _))
      refine (trim_calls (Up ok w.heap.size) _ _ _ xs _ HI.out.1.symm (Nat.le_refl _) hr).mono ?_
      clear hr
      rintro e w1 ⟨l, hl, rfl, rfl⟩
      rw [HV.out] at hl
      have HL := Lib.hid hl
      clear hl
      go_wp2
      exact HP.out _ _ ⟨_, l, HL.out.2, rfl, HE.out⟩
end Go.Proofs.Ythibocafjkbeeaa
/-
  integer.times: what it returns. Condition: the lists of limbs are shorter than a given bound.
-/
namespace Go.Proofs.Ythibocafjkbeeaa
open Go.RowKit

theorem val_set_any : ∀ (xs : List Nat) (k x : Nat), k < xs.length → val (xs.set k x) + 4294967296 ^ k * nth xs k = val xs + 4294967296 ^ k * x
  | [], k, x, h => by simp at h
  | y :: r, 0, x, _ => by simp [val, nth]; omega
  | y :: r, k + 1, x, h => by
    have := val_set_any r k x (by simpa using h)
    simp only [List.set_cons_succ, val, Nat.pow_succ]
    rw [show nth (y :: r) (k + 1) = nth r k from by simp [nth]]
    rw [Nat.mul_comm (4294967296 ^ k) 4294967296, Nat.mul_assoc, Nat.mul_assoc]
    omega
theorem mul_wrap (a b x c : Nat) (ha : a < 4294967296) (hb : b < 4294967296) (hx : x < 4294967296) (hc : c < 4294967296) : ∃ r c' : Nat, r < 4294967296 ∧ c' < 4294967296 ∧
    IntKind.u64.wrap ((c : Int) + IntKind.u64.wrap (IntKind.u64.wrap ((a : Int) * b) + x)) % 4294967296 = (r : Int) ∧ IntKind.u64.wrap ((c : Int) + IntKind.u64.wrap (IntKind.u64.wrap ((a : Int) * b) + x)) / 4294967296 = (c' : Int) ∧ r + 4294967296 * c' = c + a * b + x := by
  have hw : ∀ x : Int, IntKind.u64.wrap x = x % 18446744073709551616 := fun x => by rw [IntKind.wrap_u64]
  have hp : a * b ≤ 4294967295 * 4294967295 := Nat.mul_le_mul (by omega) (by omega)
  rw [hw, hw, hw, ← Int.natCast_mul]
  obtain ⟨p, hp'⟩ : ∃ p, p = a * b := ⟨_, rfl⟩
  rw [← hp'] at hp ⊢
  exact ⟨(c + p + x) % 4294967296, (c + p + x) / 4294967296, by omega, by omega, by omega, by omega, by omega⟩

theorem times_round (V V' T W a b x r cy c' P Q : Nat) (hs : V' + P * Q * x = V + P * Q * r) (hr : r + 4294967296 * c' = cy + a * b + x) (hv : V + P * Q * cy = T + P * (a * W)) :
    V' + P * (Q * 4294967296) * c' = T + P * (a * (W + Q * b)) := by
  have h1 : P * Q * r + P * Q * (4294967296 * c') = P * Q * cy + P * Q * (a * b) + P * Q * x := by rw [← Nat.mul_add, hr, Nat.mul_add, Nat.mul_add]
  have h2 : P * (a * (W + Q * b)) = P * (a * W) + P * Q * (a * b) := by
    rw [Nat.mul_add, Nat.mul_add]
    congr 1
    rw [Nat.mul_assoc P Q, Nat.mul_left_comm a Q b]
  have h3 : P * (Q * 4294967296) * c' = P * Q * (4294967296 * c') := by rw [← Nat.mul_assoc P Q, Nat.mul_assoc (P * Q)]
  omega

set_option maxHeartbeats 1000000 in
theorem times_any (ok : Nat → Prop) (A B : Option Addr) (la lb c d m n : Nat) (w : World) (ha : la = (dig m).length) (hb : lb = (dig n).length) (hc : la ≤ lim) (hd : lb ≤ lim) (hA : Row Kd.u32 w ok A (dig m)) (hB : Row Kd.u32 w ok B (dig n)) :
    Calls Try.prog 61 #[.slice A la c, .slice B lb d] w fun e w' => ∃ A' l, (l = (dig (m * n)).length ∧ Row Kd.u32 w' (Up ok w.heap.size) A' (dig (m * n))) ∧ e = .returned (.slice A' l l) ∧ Below w.heap.size w w' := by
  refine veil fun R HP => ?_
  have HA := Lib.hid hA
  have HB := Lib.hid hB
  have EA := Lib.hid ha
  have EB := Lib.hid hb
  clear hA hB ha hb
  unfold lim at hc hd
  have hmk : ∀ W : World, (Instr.makeSlice 57 (.int .i64 ((la : Int) + (lb : Int))) (.int .i64 ((la : Int) + (lb : Int)))).run Try.prog W = .ok (.slice (some ⟨W.heap.size, 0, none⟩) (la + lb) (la + lb)) (W.alloc (.cells (madeCells #[.int .u32 0] (la + lb)) 99)) := fun W => by
    have := make_limbs (la + lb) (by omega) W
    simpa using this
  go_enter Try.func61, Try.ntmps61
  go_wp2
  clear hmk
  go_loopw [17] (fun i w' => ∃ (k : Nat) (xs : List Nat), k ≤ la ∧ i = .int .i64 (k : Int) ∧ Hid (xs.length = la + lb ∧ OwnL w' w.heap.size xs ∧ Below w.heap.size w w' ∧ val xs = val ((dig m).take k) * n ∧ ∀ j, k + lb ≤ j → nth xs j = 0)) (fun i _ => la - (intOf i).toNat)
  case atStart => exact ⟨0, List.replicate (la + lb) 0, by omega, rfl, by simp, OwnL.made _ _, ext_alloc (Below.refl _ _) _, by rw [val_zeros _ (fun j hj => by simp at hj; simp [nth, List.getD_eq_getElem?_getD, hj])]; simp [val], fun j _ => by
    rcases Nat.lt_or_ge j (la + lb) with h | h
    · simp [nth, List.getD_eq_getElem?_getD, h]
    · exact nth_over _ _ (by simpa using h)⟩
  case round =>
    obtain ⟨k, xs, hk, rfl, HI⟩ := hrel
    obtain ⟨wo, rfl⟩ : ∃ wo : World, wo = wr := ⟨_, rfl⟩
    by_cases hlt : k < la
    · have hka : k < (dig m).length := by have := EA.out; omega
      go_wp2
      go_loopw [7, 22] (fun v i w' => ∃ (j cy : Nat) (ys : List Nat), j ≤ lb ∧ cy < 4294967296 ∧ v = .int .u64 (cy : Int) ∧ i = .int .i64 (j : Int) ∧ Hid (ys.length = la + lb ∧ OwnL w' w.heap.size ys ∧ Below w.heap.size w w' ∧ val ys + 4294967296 ^ (k + j) * cy = val ((dig m).take k) * n + 4294967296 ^ k * (nth (dig m) k * val ((dig n).take j)) ∧ ∀ j, k + lb ≤ j → nth ys j = 0)) (fun _ i _ => lb - (intOf i).toNat)
      case atStart => exact ⟨0, 0, xs, by omega, by omega, rfl, rfl, HI.out.1, HI.out.2.1, HI.out.2.2.1, by rw [HI.out.2.2.2.1]; simp [val], HI.out.2.2.2.2⟩
      case round =>
        obtain ⟨j, cy, ys, hj, hcy, rfl, rfl, HJ⟩ := hrel
        have HE := Lib.hid HJ.out.2.2.1
        by_cases hlt2 : j < lb
        · have hcell := HJ.out.2.1.cell (i := k + j) (by have := HJ.out.1; omega)
          have hfree := HJ.out.2.1.free (k + j)
          have l3 := HJ.out.2.1.limb_lt (k + j)
          obtain ⟨ad, rfl, c1, l1⟩ := (HA.out.ext HE.out).limb (i := k) hka
          obtain ⟨bd, rfl, c2, l2⟩ := (HB.out.ext HE.out).limb (i := j) (by have := EB.out; omega)
          have i1 : (0 : Int) ≤ (k : Int) := by omega
          have i2 : (k : Int) < (la : Int) := by omega
          have i3 : (0 : Int) ≤ (j : Int) := by omega
          have i4 : (j : Int) < (lb : Int) := by omega
          go_wp2
          go_quiet (fail)
          go_wp2
          obtain ⟨r, c', hr, hc', e1, e2, h5⟩ := mul_wrap (nth (dig m) k) (nth (dig n) j) (nth ys (k + j)) cy l1 l2 l3 hcy
          rw [e1, e2]
          obtain ⟨h1, h2, h3, h4, h6⟩ := HJ.out
          refine ⟨⟨j + 1, c', ys.set (k + j) r, by omega, hc', rfl, rfl, by rw [List.length_set]; exact h1, OwnL.set_ (w := wr.drewN nq) h2 (k + j) r hr, ext_set (ext_drewN h3 nq) (Nat.le_refl _) _, ?_, fun i hi => by rw [nth_set_other _ _ _ _ (by omega)]; exact h6 i hi⟩, by simp [intOf]; omega⟩
          have hs := val_set_any ys (k + j) r (by omega)
          rw [Nat.pow_add] at hs h4
          rw [show k + (j + 1) = k + j + 1 from rfl, Nat.pow_succ, Nat.pow_add, val_take_step, Nat.mul_assoc (4294967296 ^ k)]
          exact times_round _ _ _ _ _ _ _ _ _ _ _ _ hs h5 h4
        · obtain rfl : j = lb := by omega
          have hcell := HJ.out.2.1.cell (i := k + j) (by have := HJ.out.1; omega)
          have hfree := HJ.out.2.1.free (k + j)
          have hz : nth ys (k + j) = 0 := HJ.out.2.2.2.2 _ (by omega)
          have HZ := Lib.hid hz
          clear hz
          have e0 : (cy : Int) % 4294967296 = (cy : Int) := by omega
          go_wp2
          obtain ⟨h1, h2, h3, h4, h6⟩ := HJ.out
          refine ⟨⟨k + 1, ys.set (k + j) cy, by omega, rfl, by rw [List.length_set]; exact h1, h2.set_ (k + j) cy hcy, ext_set h3 (Nat.le_refl _) _, ?_, fun i hi => by rw [nth_set_other _ _ _ _ (by omega)]; exact h6 i (by omega)⟩, by simp [intOf]; omega⟩
          have hs := val_set_any ys (k + j) cy (by omega)
          rw [HZ.out, Nat.mul_zero, Nat.add_zero] at hs
          rw [hs, h4, val_take_step, val_take_all (dig n) _ (by have := EB.out; omega), val_dig, Nat.add_mul, Nat.mul_assoc]
    · obtain rfl : k = la := by omega
      have HE := Lib.hid HI.out.2.2.1
      have hv : val xs = m * n := by rw [HI.out.2.2.2.1, val_take_all (dig m) _ (by have := EA.out; omega), val_dig]
      have HV := Lib.hid hv
      clear hv
      go_wp2_with fail
      have hr := HI.out.2.1.row (ok := Up ok w.heap.size) (by have := HI.out.1; omega) (.inr (Nat.le_refl _))
      refine (trim_calls (Up ok w.heap.size) _ _ _ xs _ HI.out.1.symm (Nat.le_refl _) hr).mono ?_
      clear hr
      rintro e w1 ⟨l, hl, rfl, rfl⟩
      rw [HV.out] at hl
      have HL := Lib.hid hl
      clear hl
      go_wp2
      exact HP.out _ _ ⟨_, l, HL.out.2, rfl, HE.out⟩
end Go.Proofs.Ythibocafjkbeeaa
