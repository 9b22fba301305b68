/-
  slices.Clone of numbers, vector.CanonicalSign. Condition: the bytes of the argument stay below a given bound.
-/
import Derived.Test.YthibocafjkbeeaaPart09
import Derived.WalkSpells
set_option linter.unusedVariables false
set_option linter.unusedSimpArgs false
namespace Go.Proofs.Ythibocafjkbeeaa
open Go.RowKit

def num64 (xs : List Int) : List Value := xs.map (Value.int .i64)
theorem num64_length (xs : List Int) : (num64 xs).length = xs.length := by simp [num64]
theorem num64_get (xs : List Int) (j : Nat) (h : j < xs.length) : (num64 xs)[j]? = some (.int .i64 (nth xs j)) := by
  simp [num64, nth_eq xs j h, h]
theorem num64_at (xs : List Int) (i : Nat) (hi : i < xs.length) : ((num64 xs).drop (i * 1)).take 1 = [.int .i64 xs[i]] := by
  rw [Nat.mul_one, List.drop_eq_getElem_cons (by rw [num64_length]; exact hi)]
  simp [num64]
theorem grow_num {w : World} {base : Nat} {T : TypeId} {ok : Nat → Prop} {v : Value} {xs : List Int} (h : Grow Kd.i64 w base T ok v xs) : w.ownsRow base T 1 v xs.length (num64 xs) := by
  obtain ⟨cs, h1, h2⟩ := h.out
  have hl : cs.length = xs.length * 1 := h1.1
  have : cs = num64 xs := by
    apply List.ext_getElem
    · rw [num64_length]; omega
    · intro i hi h3
      have hi2 : i < xs.length := by omega
      have h4 := (h2 i hi2).1
      change ((cs.drop (i * 1)).take 1) = [.int .i64 xs[i]] at h4
      rw [Nat.mul_one, List.drop_eq_getElem_cons hi] at h4
      simp only [List.take_succ_cons, List.take_zero, List.cons.injEq, and_true] at h4
      rw [h4]
      simp [num64]
  rw [← this]
  exact h1
theorem num_grow {w : World} {base : Nat} {T : TypeId} {ok : Nat → Prop} {v : Value} {xs : List Int} (h : w.ownsRow base T 1 v xs.length (num64 xs)) (hx : ∀ i, i < xs.length → -9223372036854775808 ≤ nth xs i ∧ nth xs i ≤ 9223372036854775807) : Grow Kd.i64 w base T ok v xs :=
  ⟨num64 xs, h, fun i hi => ⟨num64_at xs i hi, by have := hx i hi; rwa [nth_eq xs i hi] at this⟩⟩
theorem grow_empty {α : Type} {k : Kd α} {w W : World} (T : TypeId) (ok : Nat → Prop) (hb : w.heap.size ≤ W.heap.size) : Grow k (W.alloc (.cells #[] T)) w.heap.size T ok (.slice (some ⟨W.heap.size, 0, none⟩) 0 0) ([] : List α) :=
  ⟨[], World.ownsRow_lit W #[] 0 hb (by simp [maxLen]) (by simp), fun i hi => by simp at hi⟩
theorem info_num : (Try.prog.info? 2).map (fun i => (i.zero, i.size, i.bytes)) = some (some (.int .i64 0), 1, 8) := by kernel_rfl
set_option maxRecDepth 100000 in
set_option maxHeartbeats 1000000 in
theorem Clone_any (ok : Nat → Prop) (A : Option Addr) (n c : Nat) (xs : List Int) (w : World) (hn : n = xs.length) (hb : n * 8 ≤ 140737488355328) (h1 : Row Kd.i64 w ok A xs) :
    Calls Try.prog 20 #[.slice A n c] w fun e w' => ∃ v, Grow Kd.i64 w' w.heap.size 2 All v xs ∧ e = .returned v ∧ Below w.heap.size w w' := by
  refine veil fun R HP => ?_
  have H1 := Lib.hid h1
  have HN := Lib.hid hn
  have e1 := Lib.run_eql_slice_nil (P := Try.prog) w 22 2 A n c 0 0 Try.underlying22
  clear h1 hn
  cases A with
  | none =>
    have hx : xs = [] := by
      cases xs with
      | nil => rfl
      | cons x r => obtain ⟨ad, he, _⟩ := H1.out.2 (by simp); cases he
    have HX := Lib.hid hx
    clear hx
    have e2 : (binOp .eql 22 (.slice none n c) (.slice none 0 0)).run Try.prog w = .ok (.bool true) w := e1
    clear e1
    go_enter Try.func20, Try.ntmps20
    go_wp2
    exact HP.out _ _ ⟨_, by rw [HX.out]; exact Grow.nil _ _ _ _, rfl, Below.refl _ _⟩
  | some ad =>
    have e2 : (binOp .eql 22 (.slice (some ad) n c) (.slice none 0 0)).run Try.prog w = .ok (.bool false) w := e1
    clear e1
    go_enter Try.func20, Try.ntmps20
    go_wp2_with (at_builtin; (refine wpList_cat (k := Kd.i64) (base := w.heap.size) (T := 2) (ok := All) (xs := []) rfl (.tmp 5) (.tmp 6) 22 rfl (.int .i64 0) 8 Try.underlying22 info_num rfl (show 0 < 1 by omega) rfl (grow_empty _ _ (Nat.le_refl _)) (some ad) n c xs HN.out rfl ((H1.out.weak fun b hb hl => ⟨trivial, fun e => by have e2 : w.heap.size = b := Option.some.inj (show some w.heap.size = some b from e); omega⟩).alloc _) (by simp; omega) (by simp; omega) (by simp) ?_); (intro v' w6 hg6 hr6 hv6; have G6 := Lib.hid hg6; have R6 := Lib.hid (ext_grown (ext_alloc (Below.refl w.heap.size w) _) hr6 fun k e => by have e2 : w.heap.size = k := Option.some.inj (show some w.heap.size = some k from e); omega); clear hg6 hr6 hv6))
    exact HP.out _ _ ⟨_, by have := G6.out; rwa [List.nil_append] at this, rfl, R6.out⟩

/-- The sign of the first number that is not 0. -/
def sgnL : List Int → Int
  | [] => 0
  | x :: xs => if x = 0 then sgnL xs else x.sign
def can (xs : List Int) : List Int := xs.map (sgnL xs * ·)
def canB (xs : List Int) : Bool := inB xs && (sgnL xs != 0)
theorem sgnL_zero : ∀ (xs : List Int), (∀ i, i < xs.length → nth xs i = 0) → sgnL xs = 0
  | [], _ => rfl
  | x :: xs, h => by
    have h0 : x = 0 := h 0 (by simp)
    rw [sgnL, if_pos h0]
    exact sgnL_zero xs fun i hi => h (i + 1) (by simpa using hi)
theorem sgnL_at : ∀ (xs : List Int) (k : Nat), k < xs.length → (∀ i, i < k → nth xs i = 0) → nth xs k ≠ 0 → sgnL xs = (nth xs k).sign
  | [], k, hk, _, _ => by simp at hk
  | x :: xs, 0, _, _, hne => by
    have h0 : x ≠ 0 := hne
    rw [sgnL, if_neg h0]
    rfl
  | x :: xs, k + 1, hk, hz, hne => by
    have h0 : x = 0 := hz 0 (by omega)
    rw [sgnL, if_pos h0]
    exact sgnL_at xs k (by simpa using hk) (fun i hi => hz (i + 1) (by omega)) hne
theorem can_nth (xs : List Int) (i : Nat) (h : i < xs.length) : nth (can xs) i = sgnL xs * nth xs i := by
  rw [nth_eq _ _ (by simpa [can] using h), nth_eq _ _ h]; simp [can]
theorem can_length (xs : List Int) : (can xs).length = xs.length := by simp [can]
theorem inB_at {xs : List Int} (h : inB xs = true) (i : Nat) (hi : i < xs.length) : -1099511627776 ≤ nth xs i ∧ nth xs i ≤ 1099511627776 := by
  simp only [inB, decide_eq_true_eq] at h
  exact h i hi
theorem sg_cases (x : Int) : x.sign = 0 ∨ x.sign = 1 ∨ x.sign = -1 := by
  rcases Int.lt_trichotomy x 0 with h | h | h
  · exact .inr (.inr (Int.sign_eq_neg_one_of_neg h))
  · exact .inl (by rw [h]; rfl)
  · exact .inr (.inl (Int.sign_eq_one_of_pos h))
theorem sgnL_cases : ∀ (xs : List Int), sgnL xs = 0 ∨ sgnL xs = 1 ∨ sgnL xs = -1
  | [] => .inl rfl
  | x :: xs => by
    rw [sgnL]
    split
    · exact sgnL_cases xs
    · exact sg_cases x
theorem can_in {xs : List Int} (h : inB xs = true) : ∀ i, i < (can xs).length → -1099511627776 ≤ nth (can xs) i ∧ nth (can xs) i ≤ 1099511627776 := by
  intro i hi
  rw [can_length] at hi
  have := inB_at h i hi
  rw [can_nth xs i hi]
  rcases sgnL_cases xs with e | e | e <;> rw [e] <;> omega
/-- Half of the way: the first i numbers have changed their sign. -/
def part (xs : List Int) (i : Nat) : List Int := (xs.take i).map (fun x => -x) ++ xs.drop i
theorem part_length (xs : List Int) (i : Nat) (h : i ≤ xs.length) : (part xs i).length = xs.length := by simp [part]; omega
theorem part_nth (xs : List Int) (i : Nat) (h : i < xs.length) : nth (part xs i) i = nth xs i := by
  have hl : ((xs.take i).map fun x => -x).length = i := by simp; omega
  rw [nth_eq _ _ (by rw [part_length _ _ (by omega)]; exact h), nth_eq _ _ h]
  unfold part
  rw [List.getElem_append_right (by omega), List.getElem_drop]
  congr 1
  rw [hl]
  omega
theorem part_set (xs : List Int) (i : Nat) (h : i < xs.length) : (num64 (part xs i)).set i (.int .i64 (-(nth xs i))) = num64 (part xs (i + 1)) := by
  have hl : ((xs.take i).map fun x => -x).length = i := by simp; omega
  unfold num64 part
  rw [← List.map_set]
  congr 1
  rw [List.set_append_right _ _ (by omega), hl, Nat.sub_self, List.drop_eq_getElem_cons h, List.set_cons_zero, ← List.take_append_getElem h, List.map_append, nth_eq _ _ h]
  simp
theorem part_all (xs : List Int) : part xs xs.length = xs.map fun x => -x := by simp [part]
set_option maxRecDepth 100000 in
set_option maxHeartbeats 1000000 in
theorem vCanon_any (ok : Nat → Prop) (A : Option Addr) (n c : Nat) (xs : List Int) (w : World) (hn : n = xs.length) (hb : n * 8 ≤ 140737488355328) (h1 : Row Kd.i64 w ok A xs) :
    Calls Try.prog 10 #[.slice A n c] w fun e w' => (if canB xs = true then ∃ v, Grow Kd.i64 w' w.heap.size 2 All v (can xs) ∧ e = .returned (.tuple #[v, .bool true]) else e = .returned (.tuple #[.slice none 0 0, .bool false])) ∧ Below w.heap.size w w' := by
  refine veil fun R HP => ?_
  have hl := h1.1
  rw [← hn] at hl
  have H1 := Lib.hid h1
  have HN := Lib.hid hn
  clear h1 hn
  have FT := Lib.hid (fits_any ok (n : Int) A n c xs w HN.out H1.out)
  rcases Bool.eq_false_or_eq_true (inB xs) with hi | hi
  · have HI := Lib.hid hi
    have hf : fitB (n : Int) xs = true := by rw [fitB, hi, ← HN.out]; simp
    rw [hf] at FT
    clear hi hf
    go_enter Try.func10, Try.ntmps10
    go_wp2_with (go_at_call 19; refine FT.out.mono ?_; rintro e w' ⟨rfl, rfl⟩)
    go_loop [15] (fun i => ∃ k : Nat, k ≤ n ∧ i = .int .i64 (k : Int) ∧ Hid (∀ a, a < k → nth xs a = 0)) (fun i => n - (intOf i).toNat)
    case atStart => exact ⟨0, by omega, by go_num, Lib.hid (fun a ha => by omega)⟩
    case round =>
      obtain ⟨k, hk, rfl, HK⟩ := hrel
      by_cases hlt : k < n
      · obtain ⟨ad, rfl, c1, x1, x2⟩ := H1.out.num (i := k) (by rw [← HN.out]; exact hlt)
        obtain ⟨x, hx⟩ : ∃ x, x = nth xs k := ⟨_, rfl⟩
        rw [← hx] at c1 x1 x2
        have HX := Lib.hid hx
        clear hx
        by_cases h0 : x = 0
        · have HZ := Lib.hid h0
          have t1 : (x == 0) = true := by simp [h0]
          clear h0
          go_wp2
          go_round
          case rel =>
            refine ⟨k + 1, by omega, by go_num, Lib.hid fun a ha => ?_⟩
            by_cases h : a = k
            · subst h; rw [← HX.out]; exact HZ.out
            · exact HK.out a (by omega)
          case measure => simp [intOf] <;> omega
        · have t1 : (x == 0) = false := by simpa using h0
          have HS := Lib.hid (show sgnL xs = x.sign from by rw [HX.out]; exact sgnL_at xs k (by rw [← HN.out]; exact hlt) HK.out (by rw [← HX.out]; exact h0))
          have HC := Lib.hid (show canB xs = true from by
            rw [canB, HI.out, HS.out]
            rcases sg_cases x with e | e | e
            · exact absurd (Int.sign_eq_zero_iff_zero.1 e) h0
            · rw [e]; rfl
            · rw [e]; rfl)
          go_wp2_with fail
          with_reducible refine (Clone_any ok (some ad) n c xs _ HN.out hb H1.out).mono ?_
          rintro e w1 ⟨v, hv, rfl, hbl⟩
          have B1 := Lib.hid hbl
          have hown := grow_num hv
          rw [← HN.out] at hown
          obtain ⟨g, cap, rfl⟩ : ∃ g cap, v = .slice (some ⟨g, 0, none⟩) n cap := by
            rcases hown.2 with ⟨-, h⟩ | ⟨g, cap, _, h, _⟩
            · omega
            · exact ⟨g, cap, h⟩
          have G1 := Lib.hid hown
          have hgl := Lib.hid (hown.lt g rfl)
          clear hv hbl hown c1
          rcases Int.lt_or_gt_of_ne h0 with hneg | hpos
          · have HM := Lib.hid (show (can xs) = xs.map fun x => -x from by
              unfold can
              rw [HS.out, Int.sign_eq_neg_one_of_neg hneg]
              exact List.map_congr_left fun a _ => by omega)
            have t2 : decide (x < 0) = true := decide_eq_true hneg
            clear h0 hneg
            go_wp2
            go_loopw [25] (fun i w' => ∃ j : Nat, j ≤ n ∧ i = .int .i64 (j : Int) ∧ Hid (w'.ownsRow w.heap.size 2 1 (.slice (some ⟨g, 0, none⟩) n cap) n (num64 (part xs j))) ∧ Hid (Below w.heap.size w w')) (fun i _ => n - (intOf i).toNat)
            case atStart => exact ⟨0, by omega, by go_num, Lib.hid (by rw [show part xs 0 = xs from by simp [part]]; exact G1.out), B1⟩
            case round =>
              obtain ⟨j, hj, rfl, HO, HB⟩ := hrel
              by_cases hlt2 : j < n
              · have d1 := HO.out.cellAt j (by omega)
                rw [num64_get _ _ (by rw [part_length _ _ (by rw [← HN.out]; omega), ← HN.out]; exact hlt2), part_nth _ _ (by rw [← HN.out]; exact hlt2)] at d1
                have f1 := HO.out.frozenAt j
                have hy := inB_at HI.out j (by rw [← HN.out]; exact hlt2)
                obtain ⟨y, hyy⟩ : ∃ y, y = nth xs j := ⟨_, rfl⟩
                rw [← hyy] at d1 hy
                have HY := Lib.hid hyy
                obtain ⟨y1, y2⟩ := hy
                have ST := Lib.hid (HO.out.stored j (.int .i64 (-y)))
                have i1 : (0 : Int) ≤ (j : Int) := by omega
                have i2 : (j : Int) < (n : Int) := by omega
                clear hyy
                go_wp2
                go_roundw
                case rel =>
                  refine ⟨j + 1, by omega, by go_num, Lib.hid ?_, Lib.hid (ext_set HB.out hgl.out.1 _)⟩
                  have h9 := ST.out.1
                  rw [HY.out, part_set xs j (by rw [← HN.out]; exact hlt2), ← HY.out] at h9
                  exact h9
                case measure => simp [intOf] <;> omega
              · obtain rfl : j = n := by omega
                have HF := Lib.hid (show Grow Kd.i64 wr w.heap.size 2 All (.slice (some ⟨g, 0, none⟩) j cap) (can xs) from by
                  have h9 := HO.out
                  rw [show part xs j = can xs from by rw [HN.out, part_all, HM.out]] at h9
                  refine num_grow (by rw [can_length, ← HN.out]; exact h9) fun i hi => ?_
                  have := can_in HI.out i hi
                  omega)
                go_wp2
                exact HP.out _ _ ⟨by rw [if_pos HC.out]; exact ⟨_, HF.out, rfl⟩, HB.out⟩
          · have HM := Lib.hid (show (can xs) = xs from by
              unfold can
              rw [HS.out, Int.sign_eq_one_of_pos hpos]
              simp)
            have t2 : decide (x < 0) = false := decide_eq_false (by omega)
            have HF := Lib.hid (show Grow Kd.i64 w1 w.heap.size 2 All (.slice (some ⟨g, 0, none⟩) n cap) (can xs) from by
              rw [HM.out]
              refine num_grow (by rw [← HN.out]; exact G1.out) fun i hi => ?_
              have := inB_at HI.out i hi
              omega)
            clear h0 hpos
            go_wp2
            go_loop [25] (fun i => ∃ j : Nat, j ≤ n ∧ i = .int .i64 (j : Int)) (fun i => n - (intOf i).toNat)
            case atStart => exact ⟨0, by omega, by go_num⟩
            case round =>
              obtain ⟨j, hj, rfl⟩ := hrel
              by_cases hlt2 : j < n
              · go_wp2
                go_round
                case rel => exact ⟨j + 1, by omega, by go_num⟩
                case measure => simp [intOf] <;> omega
              · obtain rfl : j = n := by omega
                go_wp2
                exact HP.out _ _ ⟨by rw [if_pos HC.out]; exact ⟨_, HF.out, rfl⟩, B1.out⟩
      · obtain rfl : k = n := by omega
        have HC := Lib.hid (show canB xs = false from by
          rw [canB, sgnL_zero xs (by rw [← HN.out]; exact HK.out)]
          simp)
        go_wp2
        exact HP.out _ _ ⟨by rw [if_neg (by rw [HC.out]; decide)] <;> rfl, Below.refl _ _⟩
  · have HC := Lib.hid (show canB xs = false from by rw [canB, hi]; rfl)
    have hf : fitB (n : Int) xs = false := by rw [fitB, hi]; rfl
    rw [hf] at FT
    clear hi hf
    go_enter Try.func10, Try.ntmps10
    go_wp2_with (go_at_call 19; refine FT.out.mono ?_; rintro e w' ⟨rfl, rfl⟩)
    exact HP.out _ _ ⟨by rw [if_neg (by rw [HC.out]; decide)] <;> rfl, Below.refl _ _⟩
end Go.Proofs.Ythibocafjkbeeaa
/-
  vector.value and vector.inner: what they return. Condition: the form is a square matrix, the vectors have its size.
-/
namespace Go.Proofs.Ythibocafjkbeeaa
open Go.RowKit

/-- Is it from -MaxNorm to MaxNorm? -/
def valB (z : Int) : Bool := decide (-4611686018427387904 ≤ z ∧ z ≤ 4611686018427387904)
set_option maxRecDepth 100000 in
set_option maxHeartbeats 1000000 in
theorem value_any (ok : Nat → Prop) (v : Value) (z : Int) (w : World) (h : Big w ok v z) :
    Calls Try.prog 25 #[v] w fun e w' => e = .returned (.tuple #[.int .i64 (if valB z = true then z else 0), .bool (valB z)]) ∧ Below w.heap.size w w' := by
  refine veil fun R HP => ?_
  obtain ⟨A, l, d, rfl⟩ := h.lit
  have HB := Lib.hid h
  have k1 := Lib.hid (Own.new w 59 #[.bool (decide (z < 0)), .slice A l d])
  have B0 := Lib.hid (ext_alloc (Below.refl w.heap.size w) (.cells #[.bool (decide (z < 0)), .slice A l d] 59))
  clear h
  go_enter Try.func25, Try.ntmps25
  go_wp2_with fail
  have c0 := k1.out.cell 0
  have c1 := k1.out.cell 1
  go_wp2_with fail
  with_reducible refine (Int64_big ok _ z _ (HB.out.ext B0.out)).mono ?_
  rintro e w1 ⟨rfl, hb⟩
  have B1 := Lib.hid (ext_trans B0.out hb)
  clear hb c0 c1
  by_cases hf : -9223372036854775808 ≤ z ∧ z ≤ 9223372036854775807
  · have e1 : fits64 z = true := decide_eq_true hf
    rw [e1, if_pos rfl]
    by_cases hlo : z < -4611686018427387904
    · have e2 : valB z = false := decide_eq_false (by omega)
      rw [e2] at HP
      have t1 : decide (z < -4611686018427387904) = true := decide_eq_true hlo
      clear hf e1 e2 hlo
      go_wp2
      exact HP.out _ _ ⟨rfl, B1.out⟩
    · have t1 : decide (z < -4611686018427387904) = false := decide_eq_false hlo
      by_cases hhi : 4611686018427387904 < z
      · have e2 : valB z = false := decide_eq_false (by omega)
        rw [e2] at HP
        have t2 : decide (4611686018427387904 < z) = true := decide_eq_true hhi
        clear hf e1 e2 hlo hhi
        go_wp2
        exact HP.out _ _ ⟨rfl, B1.out⟩
      · have e2 : valB z = true := decide_eq_true (by omega)
        rw [e2, if_pos rfl] at HP
        have t2 : decide (4611686018427387904 < z) = false := decide_eq_false hhi
        clear hf e1 e2 hlo hhi
        go_wp2
        exact HP.out _ _ ⟨rfl, B1.out⟩
  · have e1 : fits64 z = false := decide_eq_false hf
    have e2 : valB z = false := decide_eq_false (by omega)
    rw [e2] at HP
    rw [e1]
    clear hf e1 e2
    go_wp2
    exact HP.out _ _ ⟨rfl, B1.out⟩

def dotN (f g : Nat → Int) : Nat → Int
  | 0 => 0
  | k + 1 => dotN f g k + f k * g k
theorem dotN_bd {f g : Nat → Int} {F G : Nat} : ∀ (k : Nat), (∀ i, i < k → (f i).natAbs ≤ F) → (∀ i, i < k → (g i).natAbs ≤ G) → (dotN f g k).natAbs ≤ k * (F * G)
  | 0, _, _ => by simp [dotN]
  | k + 1, hf, hg => by
    have h1 := dotN_bd k (fun i hi => hf i (by omega)) fun i hi => hg i (by omega)
    have h2 : (f k * g k).natAbs ≤ F * G := by rw [Int.natAbs_mul]; exact Nat.mul_le_mul (hf k (by omega)) (hg k (by omega))
    have h3 := Int.natAbs_add_le (dotN f g k) (f k * g k)
    rw [dotN, Nat.succ_mul]
    omega
theorem dotN_16 {f g : Nat → Int} {F G : Nat} (k : Nat) (hk : k ≤ 16) (hf : ∀ i, i < k → (f i).natAbs ≤ F) (hg : ∀ i, i < k → (g i).natAbs ≤ G) : (dotN f g k).natAbs ≤ 16 * (F * G) :=
  Nat.le_trans (dotN_bd k hf hg) (Nat.mul_le_mul_right _ hk)
/-- The inner product of two vectors of a form with n rows. -/
def innerZ (h : List (List Int)) (x y : List Int) (n : Nat) : Int := dotN (nth x) (fun i => dotN (nth (nth h i)) (nth y) n) n
theorem Sm_of {z : Int} (h : z.natAbs < 4294967296 ^ 16) : Sm z := by
  have := lc_le (L := 16) h
  unfold Sm lim
  omega
/-- A variable that holds a number. -/
structure Acc (w : World) (okk : Nat → Prop) (X : Nat) (z : Int) (A : Option Addr) (l c : Nat) : Prop where
  own : Own w X 59 [.bool (decide (z < 0)), .slice A l c]
  big : Big w okk (.agg #[.bool (decide (z < 0)), .slice A l c]) z
section
variable {w w' : World} {okk : Nat → Prop} {X : Nat} {z : Int} {A : Option Addr} {l c : Nat}
theorem Acc.move (h : Acc w okk X z A l c) (hb : Below w.heap.size w w') : Acc w' okk X z A l c := ⟨h.own.ext hb, h.big.ext hb⟩
theorem Acc.far (h : Acc w okk X z A l c) {p : Addr} (hp : X ≠ p.block) {v0 : Value} (hc : w.cell? p = some v0) (hv : ∀ x, v0 ≠ .int .u32 x) (u : Value) : Acc (w.setCell p u) okk X z A l c := ⟨h.own.far hp u, set_big h.big hc hv u⟩
theorem Acc.zero (w : World) (okk : Nat → Prop) : Acc (w.alloc (.cells #[.bool false, .slice none 0 0] 59)) okk w.heap.size 0 none 0 0 :=
  ⟨Own.new w _ _, none, 0, 0, rfl, by rw [Int.natAbs_zero, dig_zero]; rfl, by omega, by omega, by rw [Int.natAbs_zero, dig_zero]; exact Row.nil _ _ _⟩
end
set_option maxRecDepth 100000 in
set_option maxHeartbeats 8000000 in
theorem inner_any (ok : Nat → Prop) (A X Y : Option Addr) (n c cx cy : Nat) (m : List (List Int)) (x y : List Int) (w : World) (hS : Sq m n) (hx : n = x.length) (hy : n = y.length) (h : Row Kd.i64.slice w ok A m) (h1 : Row Kd.i64 w ok X x) (h2 : Row Kd.i64 w ok Y y) :
    Calls Try.prog 26 #[.slice A n c, .slice X n cx, .slice Y n cy] w fun e w' => ∃ v, Big w' (Up ok w.heap.size) v (innerZ m x y n) ∧ e = .returned v ∧ Below w.heap.size w w' := by
  refine veil fun R HP => ?_
  have h16 := hS.le
  have HR := Lib.hid h
  have H1 := Lib.hid h1
  have H2 := Lib.hid h2
  have HQ := Lib.hid hS
  have HX := Lib.hid hx
  have HY := Lib.hid hy
  have hbm : ∀ i j, i < n → j < n → -9223372036854775808 ≤ nth (nth m i) j ∧ nth (nth m i) j ≤ 9223372036854775807 := fun i j hi hj => by
    obtain ⟨_, _, _, _, _, _, _, r⟩ := h.sub (i := i) (by rw [hS.len]; exact hi)
    exact r.nums j (by rw [hS.row i hi]; exact hj)
  have hbx : ∀ i, i < n → -9223372036854775808 ≤ nth x i ∧ nth x i ≤ 9223372036854775807 := fun i hi => h1.nums i (by rw [← hx]; exact hi)
  have hby : ∀ i, i < n → -9223372036854775808 ≤ nth y i ∧ nth y i ≤ 9223372036854775807 := fun i hi => h2.nums i (by rw [← hy]; exact hi)
  have BM := Lib.hid hbm
  have BX := Lib.hid hbx
  have BY := Lib.hid hby
  have hpd : ∀ k j, k < n → j ≤ n → (dotN (nth (nth m k)) (nth y) j).natAbs ≤ 16 * (9223372036854775808 * 9223372036854775808) := fun k j hk hj => by
    exact dotN_16 j (Nat.le_trans hj h16) (fun i hi => by have := hbm k i hk (by omega); omega) (fun i hi => by have := hby i (by omega); omega)
  have hsd : ∀ k, k ≤ n → (dotN (nth x) (fun i => dotN (nth (nth m i)) (nth y) n) k).natAbs ≤ 16 * (9223372036854775808 * (16 * (9223372036854775808 * 9223372036854775808))) := fun k hk => by
    exact dotN_16 k (Nat.le_trans hk h16) (fun i hi => by have := hbx i (by omega); omega) (fun i hi => hpd i n (by omega) (Nat.le_refl _))
  have PD := Lib.hid hpd
  have SD := Lib.hid hsd
  have A0 := Lib.hid (Own.new w 59 #[.bool false, .slice none 0 0])
  have A1 := Lib.hid (Acc.zero (w.alloc (.cells #[.bool false, .slice none 0 0] 59)) (Up ok w.heap.size))
  have EB := Lib.hid (ext_alloc (ext_alloc (Below.refl w.heap.size w) (.cells #[.bool false, .slice none 0 0] 59)) (.cells #[.bool false, .slice none 0 0] 59))
  have A0' := Lib.hid (A0.out.alloc (.cells #[.bool false, .slice none 0 0] 59))
  have hz1 : (w.alloc (.cells #[.bool false, .slice none 0 0] 59)).heap.size = w.heap.size + 1 := by simp
  rw [hz1] at A1
  clear h h1 h2 hS hx hy hbm hbx hby hpd hsd A0 hz1
  go_enter Try.func26, Try.ntmps26
  go_wp2
  go_loopw [13] (fun i w' => ∃ (k : Nat) (s : Int) (As : Option Addr) (ls cs : Nat), k ≤ n ∧ i = .int .i64 (k : Int) ∧ Hid (s = dotN (nth x) (fun i => dotN (nth (nth m i)) (nth y) n) k) ∧ Hid (Below w.heap.size w w') ∧ Hid (Acc w' (Up ok w.heap.size) (w.heap.size + 1) s As ls cs) ∧ Hid (Own w' w.heap.size 59 [.bool false, .slice none 0 0])) (fun i _ => n - (intOf i).toNat)
  case atStart => exact ⟨0, 0, none, 0, 0, by omega, by go_num, Lib.hid rfl, EB, A1, A0'⟩
  case round =>
    obtain ⟨k, s, As, ls, cs, hk, rfl, HSV, HB, HS, OR⟩ := hrel
    clear EB A1 A0'
    by_cases hlt : k < n
    · obtain ⟨ad, M0, e0, rfl, d1, -, -, hr1⟩ := (HR.out.ext HB.out).sub (i := k) (by rw [HQ.out.len]; exact hlt)
      rw [HQ.out.row k hlt] at d1
      have i1 : (0 : Int) ≤ (k : Int) := by omega
      have i2 : (k : Int) < (n : Int) := by omega
      have R1 := Lib.hid hr1
      have B2 := Lib.hid (ext_alloc (Below.refl wr.heap.size wr) (.cells #[.bool false, .slice none 0 0] 59))
      have d2 : (wr.alloc (.cells #[.bool false, .slice none 0 0] 59)).cell? (ad.add k) = some (.slice M0 n e0) := kept B2.out d1
      have PZ := Lib.hid (Acc.zero wr (Up ok w.heap.size))
      have S2 := Lib.hid (HS.out.move B2.out)
      have O2 := Lib.hid (OR.out.ext B2.out)
      obtain ⟨px, hpx⟩ : ∃ px, px = wr.heap.size := ⟨_, rfl⟩
      have HPX := Lib.hid (show w.heap.size ≤ px from by rw [hpx]; exact HB.out.size)
      have HPX2 := Lib.hid (show w.heap.size + 1 ≠ px ∧ w.heap.size ≠ px from by
        have h1 := HS.out.own.lt
        have h2 := OR.out.lt
        rw [hpx]
        omega)
      have D1 := Lib.hid d1
      have HW2 := Lib.hid (ext_trans HB.out B2.out)
      clear hr1 d1
      go_wp2
      clear d2
      rw [← hpx] at PZ ⊢
      go_loopw [21] (fun i w' => ∃ (j : Nat) (p : Int) (Ap : Option Addr) (lp cp : Nat), j ≤ n ∧ i = .int .i64 (j : Int) ∧ Hid (p = dotN (nth (nth m k)) (nth y) j) ∧ Hid (Below w.heap.size w w') ∧ Hid (Acc w' (Up ok w.heap.size) px p Ap lp cp) ∧ Hid (Acc w' (Up ok w.heap.size) (w.heap.size + 1) s As ls cs) ∧ Hid (Own w' w.heap.size 59 [.bool false, .slice none 0 0])) (fun i _ => n - (intOf i).toNat)
      case atStart => exact ⟨0, 0, none, 0, 0, by omega, by go_num, Lib.hid rfl, HW2, PZ, S2, O2⟩
      case round =>
        clear HB HS OR S2 O2 PZ HW2 B2 hpx D1 R1
        obtain ⟨j, p, Ap, lp, cp, hj, rfl, HPV, HB, HP0, HS, OR⟩ := hrel
        have OP := Lib.hid HP0.out.own
        have PB := Lib.hid (show Big wr.drew (Up ok w.heap.size) _ _ from HP0.out.big.ext (ext_drew (Below.refl _ _)))
        have CP := Lib.hid (And.intro (OP.out.cell 0) (OP.out.cell 1))
        by_cases hlt2 : j < n
        · obtain ⟨ad', M1, e0', hA, d1, -, -, hr1⟩ := (HR.out.ext HB.out).sub (i := k) (by rw [HQ.out.len]; exact hlt)
          obtain rfl : ad = ad' := by injection hA
          rw [HQ.out.row k hlt] at d1
          obtain ⟨bd, rfl, d3, -, -⟩ := hr1.num (i := j) (by rw [HQ.out.row k hlt]; exact hlt2)
          obtain ⟨yd, rfl, d4, -, -⟩ := (H2.out.ext HB.out).num (i := j) (by rw [← HY.out]; exact hlt2)
          have CR := Lib.hid (And.intro d1 (And.intro d3 d4))
          have RG := Lib.hid (show -9223372036854775808 ≤ nth (nth m k) j ∧ nth (nth m k) j ≤ 9223372036854775807 ∧ -9223372036854775808 ≤ nth y j ∧ nth y j ≤ 9223372036854775807 from ⟨(BM.out k j hlt hlt2).1, (BM.out k j hlt hlt2).2, BY.out j hlt2⟩)
          have HVS := Lib.hid (show dotN (nth (nth m k)) (nth y) j + nth (nth m k) j * nth y j = dotN (nth (nth m k)) (nth y) (j + 1) from rfl)
          have SMA := Lib.hid (show Sm (nth (nth m k) j) ∧ Sm (nth y j) ∧ Sm p ∧ Sm (nth (nth m k) j * nth y j) from by
            have g1 := RG.out
            refine ⟨Sm_64 g1.1 g1.2.1, Sm_64 g1.2.2.1 g1.2.2.2, Sm_of ?_, Sm_of ?_⟩
            · rw [HPV.out]
              have := PD.out k j hlt (by omega)
              exact Nat.lt_of_le_of_lt this (by decide)
            · rw [Int.natAbs_mul]
              exact Nat.lt_of_le_of_lt (Nat.mul_le_mul (show (nth (nth m k) j).natAbs ≤ 9223372036854775808 by omega) (show (nth y j).natAbs ≤ 9223372036854775808 by omega)) (by decide))
          obtain ⟨hv, hhv⟩ : ∃ hv, hv = nth (nth m k) j := ⟨_, rfl⟩
          obtain ⟨yv, hyv⟩ : ∃ yv, yv = nth y j := ⟨_, rfl⟩
          rw [← hhv, ← hyv] at CR RG HVS SMA
          have j1 : (0 : Int) ≤ (j : Int) := by omega
          have j2 : (j : Int) < (n : Int) := by omega
          clear d1 d3 d4 hr1 hA hhv hyv
          go_upto_region 9 with fail
          -- one begin
          refine wp_facts [false, false, false, false, false, false, false, false, false, false, false, false, false, false, false, false, false, false, false, false, false, false, false, false, true, true, true, true, true, true, true, true, true, true, true, true, true, true, true, true, false, false, false, false, false, false, false, false, false, false, false, false] [24, 25, 26, 27, 28, 29, 30, 31, 32, 33, 34, 35, 36, 37, 38, 39] [[], [], [], [1, 2], [3], [], [4, 5], [6], [7], [], [], [9, 10], [11], [12], [8, 13], [0, 14]] [FEq (.agg #[.bool (decide (p < 0)), .slice Ap lp cp]), FEq (.slice (some ad) n c), FEq (.int .i64 (k : Int)), FEq (.pointer (some (ad.add k))), FEq (.slice (some bd) n e0'), FEq (.int .i64 (j : Int)), FEq (.pointer (some (bd.add j))), FEq (.int .i64 hv), FBig (wr.drew.heap.size) ((Up ok w.heap.size)) (hv), FEq (.slice (some yd) n cy), FEq (.int .i64 (j : Int)), FEq (.pointer (some (yd.add j))), FEq (.int .i64 yv), FBig (wr.drew.heap.size) ((Up ok w.heap.size)) (yv), FBig (wr.drew.heap.size) ((Up ok w.heap.size)) (hv * yv), FBig (wr.drew.heap.size) ((Up ok w.heap.size)) (p + hv * yv)] (by kernel_rfl) (by kernel_rfl) (by rfl) ?_ ?_
          · exact mono_cons mono_eq (mono_cons mono_eq (mono_cons mono_eq (mono_cons mono_eq (mono_cons mono_eq (mono_cons mono_eq (mono_cons mono_eq (mono_cons mono_eq (mono_cons mono_big (mono_cons mono_eq (mono_cons mono_eq (mono_cons mono_eq (mono_cons mono_eq (mono_cons mono_big (mono_cons mono_big (mono_cons mono_big (mono_nil))))))))))))))))
          · refine StepsF.step rfl rfl ?_ (StepsF.step rfl rfl ?_ (StepsF.step rfl rfl ?_ (StepsF.step rfl rfl ?_ (StepsF.step rfl rfl ?_ (StepsF.step rfl rfl ?_ (StepsF.step rfl rfl ?_ (StepsF.step rfl rfl ?_ (StepsF.step rfl rfl ?_ (StepsF.step rfl rfl ?_ (StepsF.step rfl rfl ?_ (StepsF.step rfl rfl ?_ (StepsF.step rfl rfl ?_ (StepsF.step rfl rfl ?_ (StepsF.step rfl rfl ?_ (StepsF.step rfl rfl ?_ (StepsF.last ?_))))))))))))))))
            · refine fun t24 t25 t26 t27 t28 t29 t30 t31 t32 t33 t34 t35 t36 t37 t38 t39 Q' g w' hs hd K hK => ?_
              have l0 := kept hs.ext (show wr.drew.cell? _ = _ from CP.out.1)
              have l1 := kept hs.ext (show wr.drew.cell? _ = _ from CP.out.2)
              exact pure_step hs hK (by go_simp)
            · refine fun t24 t25 t26 t27 t28 t29 t30 t31 t32 t33 t34 t35 t36 t37 t38 t39 Q' g w' hs hd K hK => ?_
              exact pure_step hs hK (by go_simp)
            · refine fun t24 t25 t26 t27 t28 t29 t30 t31 t32 t33 t34 t35 t36 t37 t38 t39 Q' g w' hs hd K hK => ?_
              exact pure_step hs hK (by go_simp)
            · refine fun t24 t25 t26 t27 t28 t29 t30 t31 t32 t33 t34 t35 t36 t37 t38 t39 Q' g w' hs hd K hK => ?_
              obtain ⟨h1, h2, -⟩ := hd
              obtain rfl : t25 = .slice (some ad) n c := h1
              obtain rfl : t26 = .int .i64 (k : Int) := h2
              exact pure_step hs hK (by go_simp)
            · refine fun t24 t25 t26 t27 t28 t29 t30 t31 t32 t33 t34 t35 t36 t37 t38 t39 Q' g w' hs hd K hK => ?_
              obtain ⟨h3, -⟩ := hd
              obtain rfl : t27 = .pointer (some (ad.add k)) := h3
              have l0 := kept hs.ext (show wr.drew.cell? _ = _ from CR.out.1)
              exact pure_step hs hK (by go_simp)
            · refine fun t24 t25 t26 t27 t28 t29 t30 t31 t32 t33 t34 t35 t36 t37 t38 t39 Q' g w' hs hd K hK => ?_
              exact pure_step hs hK (by go_simp)
            · refine fun t24 t25 t26 t27 t28 t29 t30 t31 t32 t33 t34 t35 t36 t37 t38 t39 Q' g w' hs hd K hK => ?_
              obtain ⟨h4, h5, -⟩ := hd
              obtain rfl : t28 = .slice (some bd) n e0' := h4
              obtain rfl : t29 = .int .i64 (j : Int) := h5
              exact pure_step hs hK (by go_simp)
            · refine fun t24 t25 t26 t27 t28 t29 t30 t31 t32 t33 t34 t35 t36 t37 t38 t39 Q' g w' hs hd K hK => ?_
              obtain ⟨h6, -⟩ := hd
              obtain rfl : t30 = .pointer (some (bd.add j)) := h6
              have l0 := kept hs.ext (show wr.drew.cell? _ = _ from CR.out.2.1)
              exact pure_step hs hK (by go_simp)
            · refine fun t24 t25 t26 t27 t28 t29 t30 t31 t32 t33 t34 t35 t36 t37 t38 t39 Q' g w' hs hd K hK => ?_
              obtain ⟨h7, -⟩ := hd
              obtain rfl : t31 = .int .i64 hv := h7
              refine call_step (vals := [.int .i64 hv]) hs hK rfl Try.func35 rfl rfl rfl ((Small_big (Av (wr.drew.heap.size) ((Up ok w.heap.size)) g) hv w' RG.out.1 RG.out.2.1).mono ?_)
              rintro e w3 ⟨v, hz, rfl, hb⟩
              exact ⟨v, rfl, hb, hs.made hz⟩
            · refine fun t24 t25 t26 t27 t28 t29 t30 t31 t32 t33 t34 t35 t36 t37 t38 t39 Q' g w' hs hd K hK => ?_
              exact pure_step hs hK (by go_simp)
            · refine fun t24 t25 t26 t27 t28 t29 t30 t31 t32 t33 t34 t35 t36 t37 t38 t39 Q' g w' hs hd K hK => ?_
              exact pure_step hs hK (by go_simp)
            · refine fun t24 t25 t26 t27 t28 t29 t30 t31 t32 t33 t34 t35 t36 t37 t38 t39 Q' g w' hs hd K hK => ?_
              obtain ⟨h9, h10, -⟩ := hd
              obtain rfl : t33 = .slice (some yd) n cy := h9
              obtain rfl : t34 = .int .i64 (j : Int) := h10
              exact pure_step hs hK (by go_simp)
            · refine fun t24 t25 t26 t27 t28 t29 t30 t31 t32 t33 t34 t35 t36 t37 t38 t39 Q' g w' hs hd K hK => ?_
              obtain ⟨h11, -⟩ := hd
              obtain rfl : t35 = .pointer (some (yd.add j)) := h11
              have l0 := kept hs.ext (show wr.drew.cell? _ = _ from CR.out.2.2)
              exact pure_step hs hK (by go_simp)
            · refine fun t24 t25 t26 t27 t28 t29 t30 t31 t32 t33 t34 t35 t36 t37 t38 t39 Q' g w' hs hd K hK => ?_
              obtain ⟨h12, -⟩ := hd
              obtain rfl : t36 = .int .i64 yv := h12
              refine call_step (vals := [.int .i64 yv]) hs hK rfl Try.func35 rfl rfl rfl ((Small_big (Av (wr.drew.heap.size) ((Up ok w.heap.size)) g) yv w' RG.out.2.2.1 RG.out.2.2.2).mono ?_)
              rintro e w3 ⟨v, hz, rfl, hb⟩
              exact ⟨v, rfl, hb, hs.made hz⟩
            · refine fun t24 t25 t26 t27 t28 t29 t30 t31 t32 t33 t34 t35 t36 t37 t38 t39 Q' g w' hs hd K hK => ?_
              obtain ⟨h8, h13, -⟩ := hd
              have b32 : Big w' (Av (wr.drew.heap.size) ((Up ok w.heap.size)) g) t32 (hv) := h8
              clear h8
              have b37 : Big w' (Av (wr.drew.heap.size) ((Up ok w.heap.size)) g) t37 (yv) := h13
              clear h13
              refine call_step (vals := [t32, t37]) hs hK rfl Try.func40 rfl rfl rfl ((Mul_big _ _ _ _ _ _ b32 b37 SMA.out.1 SMA.out.2.1).mono ?_)
              rintro e w3 ⟨v, hz, rfl, hb⟩
              exact ⟨v, rfl, hb, hs.made hz⟩
            · refine fun t24 t25 t26 t27 t28 t29 t30 t31 t32 t33 t34 t35 t36 t37 t38 t39 Q' g w' hs hd K hK => ?_
              obtain ⟨h0, h14, -⟩ := hd
              obtain rfl : t24 = .agg #[.bool (decide (p < 0)), .slice Ap lp cp] := h0
              have b38 : Big w' (Av (wr.drew.heap.size) ((Up ok w.heap.size)) g) t38 (hv * yv) := h14
              clear h14
              refine call_step (vals := [.agg #[.bool (decide (p < 0)), .slice Ap lp cp], t38]) hs hK rfl Try.func39 rfl rfl rfl ((Add_big _ _ _ _ _ _ (hs.big PB.out) b38 SMA.out.2.2.1 SMA.out.2.2.2).mono ?_)
              rintro e w3 ⟨v, hz, rfl, hb⟩
              exact ⟨v, rfl, hb, hs.made hz⟩
            · refine fun t24 t25 t26 t27 t28 t29 t30 t31 t32 t33 t34 t35 t36 t37 t38 t39 g w' hs hd K hK => ?_
              obtain ⟨h0, h1, h2, h3, h4, h5, h6, h7, h8, h9, h10, h11, h12, h13, h14, h15, -⟩ := hd
              obtain rfl : t24 = .agg #[.bool (decide (p < 0)), .slice Ap lp cp] := h0
              obtain rfl : t25 = .slice (some ad) n c := h1
              obtain rfl : t26 = .int .i64 (k : Int) := h2
              obtain rfl : t27 = .pointer (some (ad.add k)) := h3
              obtain rfl : t28 = .slice (some bd) n e0' := h4
              obtain rfl : t29 = .int .i64 (j : Int) := h5
              obtain rfl : t30 = .pointer (some (bd.add j)) := h6
              obtain rfl : t31 = .int .i64 hv := h7
              have b32 : Big w' (Av (wr.drew.heap.size) ((Up ok w.heap.size)) g) t32 (hv) := h8
              clear h8
              obtain rfl : t33 = .slice (some yd) n cy := h9
              obtain rfl : t34 = .int .i64 (j : Int) := h10
              obtain rfl : t35 = .pointer (some (yd.add j)) := h11
              obtain rfl : t36 = .int .i64 yv := h12
              have b37 : Big w' (Av (wr.drew.heap.size) ((Up ok w.heap.size)) g) t37 (yv) := h13
              clear h13
              have b38 : Big w' (Av (wr.drew.heap.size) ((Up ok w.heap.size)) g) t38 (hv * yv) := h14
              clear h14
              have b39 : Big w' (Av (wr.drew.heap.size) ((Up ok w.heap.size)) g) t39 (p + hv * yv) := h15
              clear h15
              obtain ⟨A9, l9, d9, rfl⟩ := b39.lit
              have OW := Lib.hid (show Own w' px 59 _ from OP.out.ext (ext_trans (show Below wr.heap.size wr wr.drew from ext_drew (Below.refl _ _)) hs.ext))
              have r0 := OW.out.cell 0
              have r1 := OW.out.cell 1
              have f0 := OW.out.free 0
              have f1 := OW.out.free 1
              have BW := Lib.hid (b39.weak (ok' := Up ok w.heap.size) fun b h _ => av_up HB.out.size b h)
              have SW := Lib.hid (ext_trans (show Below wr.heap.size wr wr.drew from ext_drew (Below.refl _ _)) hs.ext)
              clear b32 b37 b38 b39 hs
              go_simp
              refine hK _ _ ?_
              go_wp2
              go_roundw
              case rel =>
                exact ⟨j + 1, p + hv * yv, A9, l9, d9, by omega, by go_num, Lib.hid (by rw [HPV.out]; exact HVS.out), Lib.hid (ext_set (ext_set (ext_trans HB.out SW.out) HPX.out _) HPX.out _),
                  Lib.hid ⟨(OW.out.set_ 0 _).set_ 1 _, set_big (set_big BW.out r0 (fun x h => by cases h) _) (set_apart (by simp) r1) (fun x h => by cases h) _⟩,
                  Lib.hid (((HS.out.move SW.out).far HPX2.out.1 r0 (fun x h => by cases h) _).far HPX2.out.1 (set_apart (by simp) r1) (fun x h => by cases h) _), Lib.hid (((OR.out.ext SW.out).far HPX2.out.2 _).far HPX2.out.2 _)⟩
              case measure => simp [intOf] <;> omega
          -- one end
        · obtain rfl : j = n := by omega
          obtain ⟨xd, rfl, d5, -, -⟩ := (H1.out.ext HB.out).num (i := k) (by rw [← HX.out]; exact hlt)
          have CX := Lib.hid d5
          have CS := Lib.hid (And.intro (HS.out.own.cell 0) (HS.out.own.cell 1))
          have OS := Lib.hid HS.out.own
          have SB := Lib.hid (show Big wr.drew (Up ok w.heap.size) _ _ from HS.out.big.ext (ext_drew (Below.refl _ _)))
          have RX := Lib.hid (BX.out k hlt)
          have SMB := Lib.hid (show Sm (nth x k) ∧ Sm p ∧ Sm s ∧ Sm (nth x k * p) from by
            have g1 := RX.out
            have g2 := PD.out k j hlt (Nat.le_refl _)
            rw [← HPV.out] at g2
            refine ⟨Sm_64 g1.1 g1.2, Sm_of (Nat.lt_of_le_of_lt g2 (by decide)), Sm_of ?_, Sm_of ?_⟩
            · rw [HSV.out]
              exact Nat.lt_of_le_of_lt (SD.out k (by omega)) (by decide)
            · rw [Int.natAbs_mul]
              exact Nat.lt_of_le_of_lt (Nat.mul_le_mul (show (nth x k).natAbs ≤ 9223372036854775808 by omega) g2) (by decide))
          obtain ⟨xv, hxv⟩ : ∃ xv, xv = nth x k := ⟨_, rfl⟩
          rw [← hxv] at CX RX SMB
          have HXV := Lib.hid hxv
          clear d5 hxv
          go_upto_region 11 with fail
          -- two begin
          refine wp_facts [false, false, false, false, false, false, false, false, false, false, false, false, false, false, false, false, false, false, false, false, false, false, false, false, false, false, false, false, false, false, false, false, false, false, false, false, false, false, false, false, false, true, true, true, true, true, true, true, true, true, false, false] [41, 42, 43, 44, 45, 46, 47, 48, 49] [[], [], [], [1, 2], [3], [4], [], [5, 6], [0, 7]] [FEq (.agg #[.bool (decide (s < 0)), .slice As ls cs]), FEq (.slice (some xd) j cx), FEq (.int .i64 (k : Int)), FEq (.pointer (some (xd.add k))), FEq (.int .i64 xv), FBig (wr.drew.heap.size) ((Up ok w.heap.size)) (xv), FEq (.agg #[.bool (decide (p < 0)), .slice Ap lp cp]), FBig (wr.drew.heap.size) ((Up ok w.heap.size)) (xv * p), FBig (wr.drew.heap.size) ((Up ok w.heap.size)) (s + xv * p)] (by kernel_rfl) (by kernel_rfl) (by rfl) ?_ ?_
          · exact mono_cons mono_eq (mono_cons mono_eq (mono_cons mono_eq (mono_cons mono_eq (mono_cons mono_eq (mono_cons mono_big (mono_cons mono_eq (mono_cons mono_big (mono_cons mono_big (mono_nil)))))))))
          · refine StepsF.step rfl rfl ?_ (StepsF.step rfl rfl ?_ (StepsF.step rfl rfl ?_ (StepsF.step rfl rfl ?_ (StepsF.step rfl rfl ?_ (StepsF.step rfl rfl ?_ (StepsF.step rfl rfl ?_ (StepsF.step rfl rfl ?_ (StepsF.step rfl rfl ?_ (StepsF.last ?_)))))))))
            · refine fun t41 t42 t43 t44 t45 t46 t47 t48 t49 Q' g w' hs hd K hK => ?_
              have l0 := kept hs.ext (show wr.drew.cell? _ = _ from CS.out.1)
              have l1 := kept hs.ext (show wr.drew.cell? _ = _ from CS.out.2)
              exact pure_step hs hK (by go_simp)
            · refine fun t41 t42 t43 t44 t45 t46 t47 t48 t49 Q' g w' hs hd K hK => ?_
              exact pure_step hs hK (by go_simp)
            · refine fun t41 t42 t43 t44 t45 t46 t47 t48 t49 Q' g w' hs hd K hK => ?_
              exact pure_step hs hK (by go_simp)
            · refine fun t41 t42 t43 t44 t45 t46 t47 t48 t49 Q' g w' hs hd K hK => ?_
              obtain ⟨h1, h2, -⟩ := hd
              obtain rfl : t42 = .slice (some xd) j cx := h1
              obtain rfl : t43 = .int .i64 (k : Int) := h2
              exact pure_step hs hK (by go_simp)
            · refine fun t41 t42 t43 t44 t45 t46 t47 t48 t49 Q' g w' hs hd K hK => ?_
              obtain ⟨h3, -⟩ := hd
              obtain rfl : t44 = .pointer (some (xd.add k)) := h3
              have l0 := kept hs.ext (show wr.drew.cell? _ = _ from CX.out)
              exact pure_step hs hK (by go_simp)
            · refine fun t41 t42 t43 t44 t45 t46 t47 t48 t49 Q' g w' hs hd K hK => ?_
              obtain ⟨h4, -⟩ := hd
              obtain rfl : t45 = .int .i64 xv := h4
              refine call_step (vals := [.int .i64 xv]) hs hK rfl Try.func35 rfl rfl rfl ((Small_big (Av (wr.drew.heap.size) ((Up ok w.heap.size)) g) xv w' RX.out.1 RX.out.2).mono ?_)
              rintro e w3 ⟨v, hz, rfl, hb⟩
              exact ⟨v, rfl, hb, hs.made hz⟩
            · refine fun t41 t42 t43 t44 t45 t46 t47 t48 t49 Q' g w' hs hd K hK => ?_
              have l0 := kept hs.ext (show wr.drew.cell? _ = _ from CP.out.1)
              have l1 := kept hs.ext (show wr.drew.cell? _ = _ from CP.out.2)
              exact pure_step hs hK (by go_simp)
            · refine fun t41 t42 t43 t44 t45 t46 t47 t48 t49 Q' g w' hs hd K hK => ?_
              obtain ⟨h5, h6, -⟩ := hd
              have b46 : Big w' (Av (wr.drew.heap.size) ((Up ok w.heap.size)) g) t46 (xv) := h5
              clear h5
              obtain rfl : t47 = .agg #[.bool (decide (p < 0)), .slice Ap lp cp] := h6
              refine call_step (vals := [t46, .agg #[.bool (decide (p < 0)), .slice Ap lp cp]]) hs hK rfl Try.func40 rfl rfl rfl ((Mul_big _ _ _ _ _ _ b46 (hs.big PB.out) SMB.out.1 SMB.out.2.1).mono ?_)
              rintro e w3 ⟨v, hz, rfl, hb⟩
              exact ⟨v, rfl, hb, hs.made hz⟩
            · refine fun t41 t42 t43 t44 t45 t46 t47 t48 t49 Q' g w' hs hd K hK => ?_
              obtain ⟨h0, h7, -⟩ := hd
              obtain rfl : t41 = .agg #[.bool (decide (s < 0)), .slice As ls cs] := h0
              have b48 : Big w' (Av (wr.drew.heap.size) ((Up ok w.heap.size)) g) t48 (xv * p) := h7
              clear h7
              refine call_step (vals := [.agg #[.bool (decide (s < 0)), .slice As ls cs], t48]) hs hK rfl Try.func39 rfl rfl rfl ((Add_big _ _ _ _ _ _ (hs.big SB.out) b48 SMB.out.2.2.1 SMB.out.2.2.2).mono ?_)
              rintro e w3 ⟨v, hz, rfl, hb⟩
              exact ⟨v, rfl, hb, hs.made hz⟩
            · refine fun t41 t42 t43 t44 t45 t46 t47 t48 t49 g w' hs hd K hK => ?_
              obtain ⟨h0, h1, h2, h3, h4, h5, h6, h7, h8, -⟩ := hd
              obtain rfl : t41 = .agg #[.bool (decide (s < 0)), .slice As ls cs] := h0
              obtain rfl : t42 = .slice (some xd) j cx := h1
              obtain rfl : t43 = .int .i64 (k : Int) := h2
              obtain rfl : t44 = .pointer (some (xd.add k)) := h3
              obtain rfl : t45 = .int .i64 xv := h4
              have b46 : Big w' (Av (wr.drew.heap.size) ((Up ok w.heap.size)) g) t46 (xv) := h5
              clear h5
              obtain rfl : t47 = .agg #[.bool (decide (p < 0)), .slice Ap lp cp] := h6
              have b48 : Big w' (Av (wr.drew.heap.size) ((Up ok w.heap.size)) g) t48 (xv * p) := h7
              clear h7
              have b49 : Big w' (Av (wr.drew.heap.size) ((Up ok w.heap.size)) g) t49 (s + xv * p) := h8
              clear h8
              obtain ⟨A9, l9, d9, rfl⟩ := b49.lit
              have OW := Lib.hid (show Own w' (w.heap.size + 1) 59 _ from OS.out.ext (ext_trans (show Below wr.heap.size wr wr.drew from ext_drew (Below.refl _ _)) hs.ext))
              have r0 := OW.out.cell 0
              have r1 := OW.out.cell 1
              have f0 := OW.out.free 0
              have f1 := OW.out.free 1
              have BW := Lib.hid (b49.weak (ok' := Up ok w.heap.size) fun b h _ => av_up HB.out.size b h)
              have SW := Lib.hid (ext_trans (show Below wr.heap.size wr wr.drew from ext_drew (Below.refl _ _)) hs.ext)
              clear b46 b48 b49 hs
              go_simp
              refine hK _ _ ?_
              go_wp2
              go_roundw
              case rel =>
                exact ⟨k + 1, s + xv * p, A9, l9, d9, by omega, by go_num, Lib.hid (by rw [HSV.out, HPV.out, HXV.out]; rfl), Lib.hid (ext_set (ext_set (ext_trans HB.out SW.out) (Nat.le_succ _) _) (Nat.le_succ _) _),
                  Lib.hid ⟨(OW.out.set_ 0 _).set_ 1 _, set_big (set_big BW.out r0 (fun x h => by cases h) _) (set_apart (by simp) r1) (fun x h => by cases h) _⟩,
                  Lib.hid (((OR.out.ext SW.out).far (show w.heap.size ≠ w.heap.size + 1 by omega) _).far (show w.heap.size ≠ w.heap.size + 1 by omega) _)⟩
              case measure => simp [intOf] <;> omega
          -- two end
    · obtain rfl : k = n := by omega
      have c0 := HS.out.own.cell 0
      have c1 := HS.out.own.cell 1
      have r0 := OR.out.cell 0
      have r1 := OR.out.cell 1
      have f0 := OR.out.free 0
      have f1 := OR.out.free 1
      have HV := Lib.hid (show s = innerZ m x y k from HSV.out)
      rw [← HV.out] at HP
      go_wp2
      refine bodyPost_ret (v := .agg #[.bool (decide (s < 0)), .slice As ls cs]) (by simp [results, Try.results26, go_sem, r0, r1]) rfl (HP.out _ _ ⟨_, ?_, rfl, ?_⟩)
      · exact set_big (set_big HS.out.big r0 (fun x h => by cases h) _) (set_apart (by simp) r1) (fun x h => by cases h) _
      · exact ext_set (ext_set HB.out (Nat.le_refl _) _) (Nat.le_refl _) _
end Go.Proofs.Ythibocafjkbeeaa
/-
  vector.Valid, vector.Inner and vector.Norm: what they return. Condition: the numbers on the way are among those that are spoken of.
-/
namespace Go.Proofs.Ythibocafjkbeeaa
open Go.RowKit

/-- What is asked of a form's numbers. -/
structure FmOk (l : List (List Int)) (n : Nat) : Prop where
  det : Sq l n → n ≤ 8 → symm l n = true → ∀ k, 1 ≤ k → k ≤ n → DetOk k k 0 (fun i j => nth (nth l i) j) 1
  red : Sq l n → vcode l = 0 → RedOk l n
theorem red_sq {l : List (List Int)} (h : redB l = true) : Sq l l.length := by
  have h1 : redP l := of_decide_eq_true h
  have hv := h1.2.1
  have hq : (nth l 0).length = l.length := by
    unfold vcode at hv
    split at hv
    · rename_i h; exact h.2.1
    · cases hv
  exact sq_of h1.1 hq
def vldB (l : List (List Int)) (x : List Int) : Bool := redB l && fitB (l.length : Int) x
theorem vld_len {l : List (List Int)} {x : List Int} (h : fitB (l.length : Int) x = true) : l.length = x.length := by
  simp only [fitB, Bool.and_eq_true, decide_eq_true_eq] at h
  omega
set_option maxRecDepth 100000 in
set_option maxHeartbeats 1000000 in
theorem Valid_any (ok : Nat → Prop) (A X : Option Addr) (n c m cx : Nat) (l : List (List Int)) (x : List Int) (w : World) (hn : n = l.length) (hm : m = x.length) (hf : FmOk l n) (h : Row Kd.i64.slice w ok A l) (h1 : Row Kd.i64 w ok X x) :
    Calls Try.prog 45 #[.slice A n c, .slice X m cx] w fun e w' => e = .returned (.bool (vldB l x)) ∧ Below w.heap.size w w' := by
  refine veil fun R HP => ?_
  have RT := Lib.hid (IsReduced_any ok A n c l w hn hf.det hf.red h)
  have FT := Lib.hid fun (W : World) (hW : Below w.heap.size w W) => fits_any ok (n : Int) X m cx x W hm (h1.ext hW)
  have HV := Lib.hid (show vldB l x = (redB l && fitB (n : Int) x) from by rw [hn]; rfl)
  rw [HV.out] at HP
  clear h h1 hf hn hm HV
  rcases Bool.eq_false_or_eq_true (redB l) with hr | hr
  · rw [hr] at RT
    rw [hr, Bool.true_and] at HP
    clear hr
    go_enter Try.func45, Try.ntmps45
    go_wp2_with fail
    with_reducible refine RT.out.mono ?_
    rintro e w1 ⟨rfl, hb⟩
    have B1 := Lib.hid hb
    clear hb
    go_wp2_with (go_at_call 19; refine (FT.out _ B1.out).mono ?_; rintro e w' ⟨rfl, rfl⟩)
    exact HP.out _ _ ⟨rfl, B1.out⟩
  · rw [hr] at RT
    rw [hr, Bool.false_and] at HP
    clear hr
    go_enter Try.func45, Try.ntmps45
    go_wp2_with fail
    with_reducible refine RT.out.mono ?_
    rintro e w1 ⟨rfl, hb⟩
    have B1 := Lib.hid hb
    clear hb
    go_wp2
    exact HP.out _ _ ⟨rfl, B1.out⟩
/-- Is there an inner product? -/
def inrB (l : List (List Int)) (x y : List Int) : Bool := vldB l x && fitB (l.length : Int) y && valB (innerZ l x y l.length)
set_option maxRecDepth 100000 in
set_option maxHeartbeats 1000000 in
theorem vInner_any (ok : Nat → Prop) (A X Y : Option Addr) (n c m cx q cy : Nat) (l : List (List Int)) (x y : List Int) (w : World) (hn : n = l.length) (hm : m = x.length) (hq : q = y.length) (hf : FmOk l n) (h : Row Kd.i64.slice w ok A l) (h1 : Row Kd.i64 w ok X x) (h2 : Row Kd.i64 w ok Y y) :
    Calls Try.prog 28 #[.slice A n c, .slice X m cx, .slice Y q cy] w fun e w' => e = .returned (.tuple #[.int .i64 (if inrB l x y = true then innerZ l x y l.length else 0), .bool (inrB l x y)]) ∧ Below w.heap.size w w' := by
  refine veil fun R HP => ?_
  have HR := Lib.hid h
  have H1 := Lib.hid h1
  have H2 := Lib.hid h2
  have HN := Lib.hid hn
  have HM := Lib.hid hm
  have HQ := Lib.hid hq
  have VT := Lib.hid (Valid_any ok A X n c m cx l x w hn hm hf h h1)
  have FT := Lib.hid fun (W : World) (hW : Below w.heap.size w W) => fits_any ok (n : Int) Y q cy y W hq (h2.ext hW)
  clear h h1 h2 hf hn hm hq
  rcases Bool.eq_false_or_eq_true (vldB l x) with hv | hv
  · have HV := Lib.hid hv
    rw [hv] at VT
    rcases Bool.eq_false_or_eq_true (fitB (n : Int) y) with hy | hy
    · have HY := Lib.hid hy
      rw [hy] at FT
      have HI := Lib.hid (show inrB l x y = valB (innerZ l x y l.length) from by rw [inrB, HV.out, ← HN.out, HY.out]; rfl)
      have HS := Lib.hid (show Sq l n ∧ n = x.length ∧ n = y.length from by
        have h3 := HV.out
        simp only [vldB, Bool.and_eq_true] at h3
        refine ⟨by rw [HN.out]; exact red_sq h3.1, by rw [HN.out]; exact vld_len h3.2, ?_⟩
        rw [HN.out]
        exact vld_len (by rw [← HN.out]; exact HY.out))
      have E1 := Lib.hid (show m = n from by rw [HM.out]; exact HS.out.2.1.symm)
      have E2 := Lib.hid (show q = n from by rw [HQ.out]; exact HS.out.2.2.symm)
      have e1 := E1.out
      have e2 := E2.out
      subst e1 e2
      rw [HI.out, ← HN.out] at HP
      clear hv hy E1 E2
      go_enter Try.func28, Try.ntmps28
      go_wp2_with fail
      with_reducible refine VT.out.mono ?_
      rintro e w1 ⟨rfl, hb⟩
      have B1 := Lib.hid hb
      clear hb
      go_wp2_with (go_at_call 19; refine (FT.out _ B1.out).mono ?_; rintro e w' ⟨rfl, rfl⟩)
      with_reducible refine (inner_any ok A X Y _ c cx cy l x y _ HS.out.1 HS.out.2.1 HS.out.2.2 (HR.out.ext B1.out) (H1.out.ext B1.out) (H2.out.ext B1.out)).mono ?_
      rintro e w2 ⟨v, hz, rfl, hb⟩
      have B2 := Lib.hid (ext_trans B1.out hb)
      have Z2 := Lib.hid hz
      clear hb hz
      have VA := value_any _ _ _ _ Z2.out
      obtain ⟨u, hu⟩ : ∃ u, u = (if valB (innerZ l x y q) = true then innerZ l x y q else 0) := ⟨_, rfl⟩
      rw [← hu] at VA HP
      have VA' := Lib.hid VA
      clear hu VA
      go_wp2_with fail
      with_reducible refine VA'.out.mono ?_
      rintro e w3 ⟨rfl, hb⟩
      have B3 := Lib.hid (ext_trans B2.out hb)
      clear hb
      go_wp2
      exact HP.out _ _ ⟨rfl, B3.out⟩
    · have HI := Lib.hid (show inrB l x y = false from by rw [inrB, HV.out, ← HN.out, hy]; rfl)
      rw [hy] at FT
      rw [HI.out] at HP
      clear hv hy
      go_enter Try.func28, Try.ntmps28
      go_wp2_with fail
      with_reducible refine VT.out.mono ?_
      rintro e w1 ⟨rfl, hb⟩
      have B1 := Lib.hid hb
      clear hb
      go_wp2_with (go_at_call 19; refine (FT.out _ B1.out).mono ?_; rintro e w' ⟨rfl, rfl⟩)
      exact HP.out _ _ ⟨rfl, B1.out⟩
  · have HI := Lib.hid (show inrB l x y = false from by rw [inrB, hv]; rfl)
    rw [hv] at VT
    rw [HI.out] at HP
    clear hv
    go_enter Try.func28, Try.ntmps28
    go_wp2_with fail
    with_reducible refine VT.out.mono ?_
    rintro e w1 ⟨rfl, hb⟩
    have B1 := Lib.hid hb
    clear hb
    go_wp2
    exact HP.out _ _ ⟨rfl, B1.out⟩
theorem vNorm_any (ok : Nat → Prop) (A X : Option Addr) (n c m cx : Nat) (l : List (List Int)) (x : List Int) (w : World) (hn : n = l.length) (hm : m = x.length) (hf : FmOk l n) (h : Row Kd.i64.slice w ok A l) (h1 : Row Kd.i64 w ok X x) :
    Calls Try.prog 16 #[.slice A n c, .slice X m cx] w fun e w' => e = .returned (.tuple #[.int .i64 (if inrB l x x = true then innerZ l x x l.length else 0), .bool (inrB l x x)]) ∧ Below w.heap.size w w' := by
  refine veil fun R HP => ?_
  have VA := vInner_any ok A X X n c m cx m cx l x x w hn hm hm hf h h1 h1
  obtain ⟨u, hu⟩ : ∃ u, u = (if inrB l x x = true then innerZ l x x l.length else 0) := ⟨_, rfl⟩
  rw [← hu] at VA HP
  have T := Lib.hid VA
  clear h h1 hf hn hm hu VA
  go_enter Try.func16, Try.ntmps16
  go_wp2_with fail
  with_reducible refine T.out.mono ?_
  rintro e w1 ⟨rfl, hb⟩
  have B1 := Lib.hid hb
  clear hb
  go_wp2
  exact HP.out _ _ ⟨rfl, B1.out⟩
end Go.Proofs.Ythibocafjkbeeaa
