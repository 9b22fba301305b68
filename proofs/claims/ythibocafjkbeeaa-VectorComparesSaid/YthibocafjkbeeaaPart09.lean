/-
  lll.IsReduced: what it returns. Condition: the numbers on the way are among those that are spoken of.
-/
import Derived.Test.YthibocafjkbeeaaPart08
set_option linter.unusedVariables false
set_option linter.unusedSimpArgs false
namespace Go.Proofs.Ythibocafjkbeeaa
open Go.RowKit

theorem mat_eq {l : List (List Int)} (h : shp l = true) : mat l = l := by
  have hs := shp_spec h
  apply List.ext_getElem (by simp [mat, matOf])
  intro i h1 h2
  have e1 : (mat l)[i] = nth (mat l) i := (nth_eq _ _ h1).symm
  have e2 : nth (mat l) i = (List.range (nth l 0).length).map fun j => nth (nth l i) j := by
    unfold mat matOf
    rw [nth_map_range _ _ _ h2]
  rw [e1, e2]
  apply List.ext_getElem
  · rw [List.length_map, List.length_range, ← hs.2.2.2.2 i h2, nth_eq _ _ h2]
  intro j h3 h4
  rw [List.getElem_map, List.getElem_range, nth_eq l i h2, nth_eq _ _ h4]
theorem sz_stl {m : List (List Int)} {n : Nat} (h : Sq m n) : Sz (stl m n n) n :=
  ⟨stl_length _ _ _, fun k hk => by rw [nth_stl _ _ _ _ hk]; exact (sq_stg h k hk).len, fun k i hk hi => by rw [nth_stl _ _ _ _ hk, (sq_stg h k hk).row i hi]; omega⟩
/-- The conditions of a reduced form. -/
def redP (l : List (List Int)) : Prop :=
  shp l = true ∧ vcode l = 0 ∧ piv (stl l l.length l.length) l.length ≤ 10000 ∧ ∀ i, i < l.length → i = 0 ∨ ((∀ j, j < i → nearB (stl l l.length l.length) i j = true) ∧ lovB (stl l l.length l.length) i = true)
instance (l : List (List Int)) : Decidable (redP l) := by unfold redP; infer_instance
def redB (l : List (List Int)) : Bool := decide (redP l)
/-- The numbers on the way are small. -/
structure RedOk (l : List (List Int)) (n : Nat) : Prop where
  sm : ∀ i j, i < n → j < n → Sm (nth (nth l i) j)
  pv : ∀ k, k + 1 < n → nth (nth (stg l n k).1 0) 0 ≠ 0
  nx : ∀ k, k + 1 < n → NxOk (stg l n k).1 (n - k) (stg l n k).2
  nr : ∀ i j, i < n → j < i → Sm (nth (nth (nth (stl l n n) j) (i - j)) 0)
  lv : ∀ k, k + 1 < n → LvOk (stl l n n) (k + 1)
set_option maxRecDepth 100000 in
set_option maxHeartbeats 2000000 in
theorem IsReduced_any (ok : Nat → Prop) (A : Option Addr) (n c : Nat) (l : List (List Int)) (w : World) (hn : n = l.length) (hdet : Sq l n → n ≤ 8 → symm l n = true → ∀ k, 1 ≤ k → k ≤ n → DetOk k k 0 (fun i j => nth (nth l i) j) 1) (hred : Sq l n → vcode l = 0 → RedOk l n) (h : Row Kd.i64.slice w ok A l) :
    Calls Try.prog 23 #[.slice A n c] w fun e w' => e = .returned (.bool (redB l)) ∧ Below w.heap.size w w' := by
  refine veil fun R HP => ?_
  have HR := Lib.hid h
  have HT := Lib.hid hdet
  have HD := Lib.hid hred
  have HN := Lib.hid hn
  clear h hdet hred hn
  rcases Bool.eq_false_or_eq_true (shp l) with hs | hs
  · have HS := Lib.hid hs
    have HM := Lib.hid (mat_eq hs)
    clear hs
    go_enter Try.func23, Try.ntmps23
    go_wp2_with fail
    with_reducible refine (FromInts_any ok A n c l _ HN.out HR.out).mono ?_
    rintro e w1 ⟨hf, hb⟩
    rw [HS.out, if_pos rfl, HM.out] at hf
    obtain ⟨A1, hM, rfl⟩ := hf
    have MM := Lib.hid hM
    have B1 := Lib.hid hb
    clear hM hb
    have t0 : (!true) = false := rfl
    go_wp2_with fail
    with_reducible refine (Validate_any (Up ok w.heap.size) A1 n n l _ HN.out HT.out MM.out).mono ?_
    rintro e w2 ⟨rfl, hb⟩
    have B2 := Lib.hid (ext_trans B1.out hb)
    have M2 := Lib.hid (MM.out.ext hb)
    clear hb
    by_cases hv : vcode l = 0
    · have HV := Lib.hid hv
      have hq : (nth l 0).length = l.length := by
        unfold vcode at hv
        split at hv
        · rename_i h; exact h.2.1
        · cases hv
      have HQ := Lib.hid (show Sq l n from by rw [HN.out]; exact sq_of HS.out hq)
      have h16 := HQ.out.le
      have h1n := HQ.out.pos
      have HO := Lib.hid (HD.out HQ.out hv)
      have HZ := Lib.hid (sz_stl HQ.out)
      rw [hv]
      clear hv hq
      go_wp2_with fail
      with_reducible refine (Stages_any (Up ok w.heap.size) A1 n n l _ HQ.out HO.out.sm HO.out.pv HO.out.nx M2.out).mono ?_
      rintro e w3 ⟨A3, c3, hst, rfl, hb⟩
      have B3 := Lib.hid (ext_trans B2.out hb)
      have S3 := Lib.hid hst.2.2
      clear hb hst
      go_wp2_with fail
      have PT := pivot_any (Up (Up ok w.heap.size) w2.heap.size) A3 n c3 (stl l n n) n w3 HZ.out.len.symm (Nat.le_refl _) HZ.out.piv S3.out
      with_reducible refine PT.mono ?_
      rintro e w4 ⟨v4, hv4, rfl, hb4⟩
      have V4 := Lib.hid hv4
      have B4 := Lib.hid (ext_trans B3.out hb4)
      have S4 := Lib.hid (S3.out.ext hb4)
      clear hv4 hb4 PT
      go_wp2_with fail
      with_reducible refine (Small_big All 10000 _ (by omega) (by omega)).mono ?_
      rintro e w5 ⟨v5, hv5, rfl, hb5⟩
      have V5 := Lib.hid hv5
      have V4' := Lib.hid (V4.out.ext hb5)
      have B5 := Lib.hid (ext_trans B4.out hb5)
      have S5 := Lib.hid (S4.out.ext hb5)
      clear hv5 hb5
      go_wp2_with fail
      with_reducible refine (Cmp_big All _ _ _ _ _ V4'.out.all V5.out.all).mono ?_
      rintro e w6 ⟨rfl, hb6⟩
      have B6 := Lib.hid (ext_trans B5.out hb6)
      have S6 := Lib.hid (S5.out.ext hb6)
      clear hb6
      by_cases hp : piv (stl l n n) n ≤ 10000
      · have HPV := Lib.hid hp
        have t1 : ord (piv (stl l n n) n) 10000 ≤ 0 := (ord_le _ _).2 hp
        have t2 : decide (0 < ord (piv (stl l n n) n) 10000) = false := decide_eq_false (by omega)
        clear hp
        generalize ord (piv (stl l n n) n) 10000 = oo at t1 t2 ⊢
        go_wp2
        go_loopw [8] (fun i w' => ∃ k : Nat, 1 ≤ k ∧ k ≤ n ∧ i = .int .i64 (k : Int) ∧ Hid (∀ a, a < k → a = 0 ∨ ((∀ b, b < a → nearB (stl l n n) a b = true) ∧ lovB (stl l n n) a = true)) ∧ Hid (Below w6.heap.size w6 w')) (fun i _ => n - (intOf i).toNat)
        case atStart => exact ⟨1, by omega, by omega, by go_num, Lib.hid (fun a ha => by omega), Lib.hid (Below.refl _ _)⟩
        case round =>
          obtain ⟨k, hk1, hk, rfl, HK, HW⟩ := hrel
          clear t1 t2
          by_cases hlt : k < n
          · have u1 : decide ((k : Int) < (n : Int)) = true := decide_eq_true (by omega)
            go_wp2
            go_loopw [41] (fun i w' => ∃ j : Nat, j ≤ k ∧ i = .int .i64 (j : Int) ∧ Hid (∀ b, b < j → nearB (stl l n n) k b = true) ∧ Hid (Below w6.heap.size w6 w')) (fun i _ => k - (intOf i).toNat)
            case atStart => exact ⟨0, by omega, by go_num, Lib.hid (fun a ha => by omega), HW⟩
            case round =>
              obtain ⟨j, hj, rfl, HJK, HJ⟩ := hrel
              have SJ := Lib.hid (S6.out.ext HJ.out)
              by_cases hlt2 : j < k
              · go_wp2_with fail
                with_reducible refine (near_any _ A3 n c3 (stl l n n) k j _ HZ.out hlt hlt2 h16 (HO.out.nr k j hlt hlt2) SJ.out).mono ?_
                rintro e w7 ⟨rfl, hb⟩
                have B7 := Lib.hid (ext_trans HJ.out hb)
                clear hb
                rcases Bool.eq_false_or_eq_true (nearB (stl l n n) k j) with hp | hp
                · have HB := Lib.hid hp
                  rw [hp]
                  clear hp
                  go_wp2
                  go_roundw
                  case rel =>
                    refine ⟨j + 1, by omega, by go_num, Lib.hid fun b hb => ?_, B7⟩
                    by_cases h : b = j
                    · subst h; exact HB.out
                    · exact HJK.out b (by omega)
                  case measure => simp [intOf] <;> omega
                · have HF := Lib.hid (show redB l = false from decide_eq_false fun h => by
                    have h1 := h.2.2.2 k (by rw [← HN.out]; exact hlt)
                    rw [← HN.out] at h1
                    rcases h1 with h1 | h1
                    · omega
                    · have := h1.1 j hlt2; rw [hp] at this; cases this)
                  rw [HF.out] at HP
                  rw [hp]
                  go_wp2
                  exact HP.out _ _ ⟨rfl, ext_trans B6.out B7.out⟩
              · obtain rfl : j = k := by omega
                obtain ⟨k', rfl⟩ : ∃ k', j = k' + 1 := ⟨j - 1, by omega⟩
                rw [show ((k' + 1 : Nat) : Int) = (k' : Int) + 1 from by omega] at *
                go_wp2_with fail
                with_reducible refine (lovasz_any _ A3 n c3 (stl l n n) k' _ HZ.out hlt h16 (HO.out.lv k' hlt) SJ.out).mono ?_
                rintro e w7 ⟨rfl, hb⟩
                have B7 := Lib.hid (ext_trans HJ.out hb)
                clear hb
                rcases Bool.eq_false_or_eq_true (lovB (stl l n n) (k' + 1)) with hp | hp
                · have HB := Lib.hid hp
                  rw [hp]
                  clear hp
                  go_wp2
                  go_roundw
                  case rel =>
                    refine ⟨k' + 2, by omega, by omega, by go_num, Lib.hid fun a ha => ?_, B7⟩
                    by_cases h : a = k' + 1
                    · subst h; exact .inr ⟨HJK.out, HB.out⟩
                    · exact HK.out a (by omega)
                  case measure => simp [intOf] <;> omega
                · have HF := Lib.hid (show redB l = false from decide_eq_false fun h => by
                    have h1 := h.2.2.2 (k' + 1) (by rw [← HN.out]; exact hlt)
                    rw [← HN.out] at h1
                    rcases h1 with h1 | h1
                    · omega
                    · have := h1.2; rw [hp] at this; cases this)
                  rw [HF.out] at HP
                  rw [hp]
                  go_wp2
                  exact HP.out _ _ ⟨rfl, ext_trans B6.out B7.out⟩
          · obtain rfl : k = n := by omega
            have HF := Lib.hid (show redB l = true from decide_eq_true ⟨HS.out, HV.out, by rw [← HN.out]; exact HPV.out, by rw [← HN.out]; exact HK.out⟩)
            rw [HF.out] at HP
            have u1 : decide ((k : Int) < (k : Int)) = false := decide_eq_false (by omega)
            go_wp2
            exact HP.out _ _ ⟨rfl, ext_trans B6.out HW.out⟩
      · have HF := Lib.hid (show redB l = false from decide_eq_false fun h => hp (by have := h.2.2.1; rwa [← HN.out] at this))
        rw [HF.out] at HP
        have t1 : 0 < ord (piv (stl l n n) n) 10000 := by
          have h : ¬ (ord (piv (stl l n n) n) 10000 ≤ 0) := fun h => hp ((ord_le _ _).1 h)
          omega
        have t2 : decide (0 < ord (piv (stl l n n) n) 10000) = true := decide_eq_true t1
        clear hp
        generalize ord (piv (stl l n n) n) 10000 = oo at t1 t2 ⊢
        go_wp2
        exact HP.out _ _ ⟨rfl, B6.out⟩
    · have HF := Lib.hid (show redB l = false from decide_eq_false fun h => hv h.2.1)
      rw [HF.out] at HP
      have t1 : (vcode l != 0) = true := by simpa using hv
      clear hv
      generalize vcode l = vv at t1 ⊢
      go_wp2
      exact HP.out _ _ ⟨rfl, B2.out⟩
  · have HF := Lib.hid (show redB l = false from decide_eq_false fun h => by have h1 := h.1; rw [hs] at h1; cases h1)
    rw [HF.out] at HP
    have HS := Lib.hid hs
    clear hs
    go_enter Try.func23, Try.ntmps23
    go_wp2_with fail
    with_reducible refine (FromInts_any ok A n c l _ HN.out HR.out).mono ?_
    rintro e w1 ⟨hf, hb⟩
    rw [HS.out, if_neg (by decide)] at hf
    subst hf
    have B1 := Lib.hid hb
    clear hb
    go_wp2
    exact HP.out _ _ ⟨rfl, B1.out⟩
end Go.Proofs.Ythibocafjkbeeaa
/-
  The order of lists of numbers: slices.Compare, vector.Compare, and the reference's Compare; vector.fits. No condition but that the arguments can be read.
-/
namespace Go.Proofs.Ythibocafjkbeeaa
open Go.RowKit

theorem isNaN_any (x : Int) (w : World) : Calls Try.prog 29 #[.int .i64 x] w fun e w' => e = .returned (.bool false) ∧ w = w' := by
  have t : (x != x) = false := by simp
  go_enter Try.func29, Try.ntmps29
  go_wp2
  go_ret
  exact ⟨by simp, rfl⟩
set_option maxRecDepth 100000 in
theorem cmpCompare_any (x y : Int) (w : World) : Calls Try.prog 22 #[.int .i64 x, .int .i64 y] w fun e w' => e = .returned (.int .i64 (ord x y)) ∧ w = w' := by
  refine veil fun R HP => ?_
  rcases Int.lt_trichotomy x y with h | h | h
  · rw [ord_lt h] at HP
    have t1 : decide (x < y) = true := decide_eq_true h
    go_enter Try.func22, Try.ntmps22
    go_wp2_with (go_at_call 29; refine (isNaN_any _ _).mono ?_; rintro e w' ⟨rfl, rfl⟩)
    exact HP.out _ _ ⟨rfl, rfl⟩
  · subst h
    rw [ord_eq] at HP
    go_enter Try.func22, Try.ntmps22
    go_wp2_with (go_at_call 29; refine (isNaN_any _ _).mono ?_; rintro e w' ⟨rfl, rfl⟩)
    exact HP.out _ _ ⟨rfl, rfl⟩
  · rw [ord_gt h] at HP
    have t1 : decide (x < y) = false := decide_eq_false (by omega)
    have t2 : decide (y < x) = true := decide_eq_true h
    go_enter Try.func22, Try.ntmps22
    go_wp2_with (go_at_call 29; refine (isNaN_any _ _).mono ?_; rintro e w' ⟨rfl, rfl⟩)
    exact HP.out _ _ ⟨rfl, rfl⟩

/-- The lexicographic order of lists. -/
def cmpL : List Int → List Int → Int
  | [], [] => 0
  | [], _ :: _ => -1
  | _ :: _, [] => 1
  | x :: xs, y :: ys => if x = y then cmpL xs ys else ord x y
theorem cmpL_drop (xs ys : List Int) (k : Nat) (h1 : k < xs.length) (h2 : k < ys.length) : cmpL (xs.drop k) (ys.drop k) = if nth xs k = nth ys k then cmpL (xs.drop (k + 1)) (ys.drop (k + 1)) else ord (nth xs k) (nth ys k) := by
  rw [List.drop_eq_getElem_cons h1, List.drop_eq_getElem_cons h2, cmpL, nth_eq _ _ h1, nth_eq _ _ h2]
theorem cmpL_left (xs ys : List Int) (k : Nat) (h1 : k < xs.length) (h2 : ys.length ≤ k) : cmpL (xs.drop k) (ys.drop k) = 1 := by
  rw [List.drop_eq_getElem_cons h1, List.drop_eq_nil_of_le h2, cmpL]
theorem cmpL_right (xs ys : List Int) (k : Nat) (h1 : xs.length ≤ k) (h2 : k < ys.length) : cmpL (xs.drop k) (ys.drop k) = -1 := by
  rw [List.drop_eq_nil_of_le h1, List.drop_eq_getElem_cons h2, cmpL]
theorem cmpL_both (xs ys : List Int) (k : Nat) (h1 : xs.length ≤ k) (h2 : ys.length ≤ k) : cmpL (xs.drop k) (ys.drop k) = 0 := by
  rw [List.drop_eq_nil_of_le h1, List.drop_eq_nil_of_le h2, cmpL]
theorem ord_ne {x y : Int} (h : x ≠ y) : (ord x y != 0) = true := by
  unfold ord
  split
  · rfl
  · split
    · rfl
    · omega
set_option maxRecDepth 100000 in
set_option maxHeartbeats 1000000 in
theorem slCompare_any (ok : Nat → Prop) (A B : Option Addr) (n m c d : Nat) (xs ys : List Int) (w : World) (hn : n = xs.length) (hm : m = ys.length) (h1 : Row Kd.i64 w ok A xs) (h2 : Row Kd.i64 w ok B ys) :
    Calls Try.prog 14 #[.slice A n c, .slice B m d] w fun e w' => e = .returned (.int .i64 (cmpL xs ys)) ∧ w = w' := by
  refine veil fun R HP => ?_
  have hl := h1.1
  rw [← hn] at hl
  have H1 := Lib.hid h1
  have H2 := Lib.hid h2
  have HN := Lib.hid hn
  have HM := Lib.hid hm
  clear h1 h2 hn hm
  go_enter Try.func14, Try.ntmps14
  go_wp2
  go_loop [11] (fun i => ∃ k : Nat, k ≤ n ∧ k ≤ m ∧ i = .int .i64 (k : Int) ∧ Hid (cmpL (xs.drop k) (ys.drop k) = cmpL xs ys)) (fun i => n - (intOf i).toNat)
  case atStart => exact ⟨0, by omega, by omega, by go_num, Lib.hid rfl⟩
  case round =>
    obtain ⟨k, hk, hk2, rfl, HK⟩ := hrel
    by_cases hlt : k < n
    · obtain ⟨ad, rfl, c1, x1, x2⟩ := H1.out.num (i := k) (by rw [← HN.out]; exact hlt)
      obtain ⟨x, hx⟩ : ∃ x, x = nth xs k := ⟨_, rfl⟩
      rw [← hx] at c1 x1 x2
      have HX := Lib.hid hx
      clear hx
      by_cases hlt2 : k < m
      · obtain ⟨bd, rfl, c2, y1, y2⟩ := H2.out.num (i := k) (by rw [← HM.out]; exact hlt2)
        obtain ⟨y, hy⟩ : ∃ y, y = nth ys k := ⟨_, rfl⟩
        rw [← hy] at c2 y1 y2
        have HY := Lib.hid hy
        clear hy
        have HC := Lib.hid (cmpL_drop xs ys k (by rw [← HN.out]; exact hlt) (by rw [← HM.out]; exact hlt2))
        have t1 : decide ((m : Int) ≤ (k : Int)) = false := decide_eq_false (by omega)
        have i1 : (0 : Int) ≤ (k : Int) := by omega
        have i2 : (k : Int) < (m : Int) := by omega
        by_cases he : x = y
        · have HE := Lib.hid he
          have t2 : (ord x y != 0) = false := by rw [he, ord_eq]; rfl
          clear he
          go_wp2_with (go_at_call 22; refine (cmpCompare_any _ _ _).mono ?_; rintro e w' ⟨rfl, rfl⟩)
          go_round
          case rel => exact ⟨k + 1, by omega, by omega, by go_num, Lib.hid (by rw [← HK.out, HC.out, if_pos (by rw [← HX.out, ← HY.out]; exact HE.out)])⟩
          case measure => simp [intOf] <;> omega
        · have t2 : (ord x y != 0) = true := ord_ne he
          have HV := Lib.hid (show cmpL xs ys = ord x y from by rw [← HK.out, HC.out, if_neg (by rw [← HX.out, ← HY.out]; exact he), ← HX.out, ← HY.out])
          rw [HV.out] at HP
          clear he
          go_wp2_with (go_at_call 22; refine (cmpCompare_any _ _ _).mono ?_; rintro e w' ⟨rfl, rfl⟩)
          exact HP.out _ _ ⟨rfl, rfl⟩
      · have HV := Lib.hid (show cmpL xs ys = 1 from by rw [← HK.out]; exact cmpL_left _ _ _ (by rw [← HN.out]; exact hlt) (by rw [← HM.out]; omega))
        rw [HV.out] at HP
        have t1 : decide ((m : Int) ≤ (k : Int)) = true := decide_eq_true (by omega)
        go_wp2
        exact HP.out _ _ ⟨rfl, rfl⟩
    · obtain rfl : k = n := by omega
      by_cases hlt2 : k < m
      · have HV := Lib.hid (show cmpL xs ys = -1 from by rw [← HK.out]; exact cmpL_right _ _ _ (by rw [← HN.out]; omega) (by rw [← HM.out]; exact hlt2))
        rw [HV.out] at HP
        have t1 : decide ((k : Int) < (m : Int)) = true := decide_eq_true (by omega)
        go_wp2
        exact HP.out _ _ ⟨rfl, rfl⟩
      · have HV := Lib.hid (show cmpL xs ys = 0 from by rw [← HK.out]; exact cmpL_both _ _ _ (by rw [← HN.out]; omega) (by rw [← HM.out]; omega))
        rw [HV.out] at HP
        have t1 : decide ((k : Int) < (m : Int)) = false := decide_eq_false (by omega)
        go_wp2
        exact HP.out _ _ ⟨rfl, rfl⟩
theorem vCompare_any (ok : Nat → Prop) (A B : Option Addr) (n m c d : Nat) (xs ys : List Int) (w : World) (hn : n = xs.length) (hm : m = ys.length) (h1 : Row Kd.i64 w ok A xs) (h2 : Row Kd.i64 w ok B ys) :
    Calls Try.prog 6 #[.slice A n c, .slice B m d] w fun e w' => e = .returned (.int .i64 (cmpL xs ys)) ∧ w = w' := by
  refine veil fun R HP => ?_
  have C := Lib.hid (slCompare_any ok A B n m c d xs ys w hn hm h1 h2)
  clear h1 h2 hn hm
  go_enter Try.func6, Try.ntmps6
  go_wp2_with (go_at_call 14; refine C.out.mono ?_; rintro e w' ⟨rfl, rfl⟩)
  exact HP.out _ _ ⟨rfl, rfl⟩

/-- All coordinates are within the limits. -/
def inB (xs : List Int) : Bool := decide (∀ i, i < xs.length → -1099511627776 ≤ nth xs i ∧ nth xs i ≤ 1099511627776)
def fitB (n : Int) (xs : List Int) : Bool := inB xs && decide ((xs.length : Int) = n)
set_option maxRecDepth 100000 in
set_option maxHeartbeats 1000000 in
theorem fits_any (ok : Nat → Prop) (q : Int) (A : Option Addr) (n c : Nat) (xs : List Int) (w : World) (hn : n = xs.length) (h1 : Row Kd.i64 w ok A xs) :
    Calls Try.prog 19 #[.int .i64 q, .slice A n c] w fun e w' => e = .returned (.bool (fitB q xs)) ∧ w = w' := by
  refine veil fun R HP => ?_
  have hl := h1.1
  rw [← hn] at hl
  have H1 := Lib.hid h1
  have HN := Lib.hid hn
  clear h1 hn
  go_enter Try.func19, Try.ntmps19
  go_wp2
  go_loop [9] (fun i => ∃ k : Nat, k ≤ n ∧ i = .int .i64 (k : Int) ∧ Hid (∀ a, a < k → -1099511627776 ≤ nth xs a ∧ nth xs a ≤ 1099511627776)) (fun i => n - (intOf i).toNat)
  case atStart => exact ⟨0, by omega, by go_num, Lib.hid (fun a ha => by omega)⟩
  case round =>
    obtain ⟨k, hk, rfl, HK⟩ := hrel
    by_cases hlt : k < n
    · obtain ⟨ad, rfl, c1, x1, x2⟩ := H1.out.num (i := k) (by rw [← HN.out]; exact hlt)
      obtain ⟨x, hx⟩ : ∃ x, x = nth xs k := ⟨_, rfl⟩
      rw [← hx] at c1 x1 x2
      have HX := Lib.hid hx
      clear hx
      by_cases hlo : x < -1099511627776
      · have HF := Lib.hid (show fitB q xs = false from by
          have : inB xs = false := decide_eq_false fun h => by have := (h k (by rw [← HN.out]; exact hlt)).1; rw [← HX.out] at this; omega
          rw [fitB, this]; rfl)
        rw [HF.out] at HP
        have t1 : decide (x < -1099511627776) = true := decide_eq_true hlo
        clear hlo
        go_wp2
        exact HP.out _ _ ⟨rfl, rfl⟩
      · have t1 : decide (x < -1099511627776) = false := decide_eq_false hlo
        by_cases hhi : 1099511627776 < x
        · have HF := Lib.hid (show fitB q xs = false from by
            have : inB xs = false := decide_eq_false fun h => by have := (h k (by rw [← HN.out]; exact hlt)).2; rw [← HX.out] at this; omega
            rw [fitB, this]; rfl)
          rw [HF.out] at HP
          have t2 : decide (1099511627776 < x) = true := decide_eq_true hhi
          clear hlo hhi
          go_wp2
          exact HP.out _ _ ⟨rfl, rfl⟩
        · have t2 : decide (1099511627776 < x) = false := decide_eq_false hhi
          have HB := Lib.hid (And.intro hlo hhi)
          clear hlo hhi
          go_wp2
          go_round
          case rel =>
            refine ⟨k + 1, by omega, by go_num, Lib.hid fun a ha => ?_⟩
            by_cases h : a = k
            · subst h; rw [← HX.out]; have := HB.out; omega
            · exact HK.out a (by omega)
          case measure => simp [intOf] <;> omega
    · obtain rfl : k = n := by omega
      have HI := Lib.hid (show inB xs = true from decide_eq_true (by rw [← HN.out]; exact HK.out))
      by_cases hq : (k : Int) = q
      · have HF := Lib.hid (show fitB q xs = true from by rw [fitB, HI.out, ← HN.out]; simp [hq])
        rw [HF.out] at HP
        have t1 : ((k : Int) == q) = true := by simpa using hq
        clear hq
        go_wp2
        exact HP.out _ _ ⟨rfl, rfl⟩
      · have HF := Lib.hid (show fitB q xs = false from by rw [fitB, HI.out, ← HN.out]; simp [hq])
        rw [HF.out] at HP
        have t1 : ((k : Int) == q) = false := by simpa using hq
        clear hq
        go_wp2
        exact HP.out _ _ ⟨rfl, rfl⟩
end Go.Proofs.Ythibocafjkbeeaa
/-
  The reference's Compare, Same and inside; Content of both. No condition but that the arguments can be read.
-/
namespace Go.Proofs.Ythibocafjkbeeaa
open Go.RowKit

theorem drawn_trans {a b c : World} (h : Drawn a b) (k : Drawn b c) : Drawn a c := by
  obtain ⟨⟨i, rfl⟩⟩ := h
  obtain ⟨⟨j, rfl⟩⟩ := k
  exact ⟨⟨i + j, World.drewN_drewN ..⟩⟩
set_option maxRecDepth 100000 in
set_option maxHeartbeats 1000000 in
theorem rCompare_any (ok : Nat → Prop) (A B : Option Addr) (n m c d : Nat) (xs ys : List Int) (w : World) (hn : n = xs.length) (hm : m = ys.length) (h1 : Row Kd.i64 w ok A xs) (h2 : Row Kd.i64 w ok B ys) :
    Calls Try.prog 7 #[.slice A n c, .slice B m d] w fun e w' => e = .returned (.int .i64 (cmpL xs ys)) ∧ Drawn w w' := by
  refine veil fun R HP => ?_
  have hl := h1.1
  rw [← hn] at hl
  have H1 := Lib.hid h1
  have H2 := Lib.hid h2
  have HN := Lib.hid hn
  have HM := Lib.hid hm
  clear h1 h2 hn hm
  go_enter Try.func7, Try.ntmps7
  go_wp2
  go_loopw [5] (fun i w' => ∃ k : Nat, k ≤ n ∧ k ≤ m ∧ i = .int .i64 (k : Int) ∧ Hid (cmpL (xs.drop k) (ys.drop k) = cmpL xs ys) ∧ Drawn w w') (fun i _ => n - (intOf i).toNat)
  case atStart => exact ⟨0, by omega, by omega, by go_num, Lib.hid rfl, drawn_refl w⟩
  case round =>
    obtain ⟨k, hk, hk2, rfl, HK, ⟨q, rfl⟩⟩ := hrel
    by_cases hlt : k < n
    · obtain ⟨ad, rfl, c1, x1, x2⟩ := H1.out.num (i := k) (by rw [← HN.out]; exact hlt)
      obtain ⟨x, hx⟩ : ∃ x, x = nth xs k := ⟨_, rfl⟩
      rw [← hx] at c1 x1 x2
      have HX := Lib.hid hx
      clear hx
      have t0 : decide ((k : Int) < (n : Int)) = true := decide_eq_true (by omega)
      by_cases hlt2 : k < m
      · obtain ⟨bd, rfl, c2, y1, y2⟩ := H2.out.num (i := k) (by rw [← HM.out]; exact hlt2)
        obtain ⟨y, hy⟩ : ∃ y, y = nth ys k := ⟨_, rfl⟩
        rw [← hy] at c2 y1 y2
        have HY := Lib.hid hy
        clear hy
        have HC := Lib.hid (cmpL_drop xs ys k (by rw [← HN.out]; exact hlt) (by rw [← HM.out]; exact hlt2))
        have t1 : decide ((k : Int) < (m : Int)) = true := decide_eq_true (by omega)
        have i1 : (0 : Int) ≤ (k : Int) := by omega
        have i2 : (k : Int) < (m : Int) := by omega
        have i3 : (k : Int) < (n : Int) := by omega
        rcases Int.lt_trichotomy x y with he | he | he
        · have t2 : (x != y) = true := by simp; omega
          have t3 : decide (x < y) = true := decide_eq_true he
          have HV := Lib.hid (show cmpL xs ys = -1 from by rw [← HK.out, HC.out, if_neg (by rw [← HX.out, ← HY.out]; omega), ← HX.out, ← HY.out]; exact ord_lt he)
          rw [HV.out] at HP
          clear he
          go_wp2
          go_quiet (fail)
          go_wp2
          go_quiet (fail)
          go_wp2
          exact HP.out _ _ ⟨rfl, by repeat (first | exact drawn_refl _ | refine drawn_step ?_ _)⟩
        · have HE := Lib.hid he
          have t2 : (x != y) = false := by simp [he]
          clear he
          go_wp2
          go_quiet (fail)
          go_wp2
          go_roundw
          case rel => exact ⟨k + 1, by omega, by omega, by go_num, Lib.hid (by rw [← HK.out, HC.out, if_pos (by rw [← HX.out, ← HY.out]; exact HE.out)]), by repeat (first | exact drawn_refl _ | refine drawn_step ?_ _)⟩
          case measure => simp [intOf] <;> omega
        · have t2 : (x != y) = true := by simp; omega
          have t3 : decide (x < y) = false := decide_eq_false (by omega)
          have HV := Lib.hid (show cmpL xs ys = 1 from by rw [← HK.out, HC.out, if_neg (by rw [← HX.out, ← HY.out]; omega), ← HX.out, ← HY.out]; exact ord_gt he)
          rw [HV.out] at HP
          clear he
          go_wp2
          go_quiet (fail)
          go_wp2
          go_quiet (fail)
          go_wp2
          exact HP.out _ _ ⟨rfl, by repeat (first | exact drawn_refl _ | refine drawn_step ?_ _)⟩
      · have HV := Lib.hid (show cmpL xs ys = 1 from by rw [← HK.out]; exact cmpL_left _ _ _ (by rw [← HN.out]; exact hlt) (by rw [← HM.out]; omega))
        rw [HV.out] at HP
        have t1 : decide ((k : Int) < (m : Int)) = false := decide_eq_false (by omega)
        have t3 : decide ((n : Int) < (m : Int)) = false := decide_eq_false (by omega)
        have t3' : decide (n < m) = false := decide_eq_false (by omega)
        have t4 : decide ((m : Int) < (n : Int)) = true := decide_eq_true (by omega)
        have t4' : decide (m < n) = true := decide_eq_true (by omega)
        go_wp2
        exact HP.out _ _ ⟨rfl, by repeat (first | exact drawn_refl _ | refine drawn_step ?_ _)⟩
    · obtain rfl : k = n := by omega
      have t0 : decide ((k : Int) < (k : Int)) = false := decide_eq_false (by omega)
      by_cases hlt2 : k < m
      · have HV := Lib.hid (show cmpL xs ys = -1 from by rw [← HK.out]; exact cmpL_right _ _ _ (by rw [← HN.out]; omega) (by rw [← HM.out]; exact hlt2))
        rw [HV.out] at HP
        have t1 : decide ((k : Int) < (m : Int)) = true := decide_eq_true (by omega)
        have t1' : decide (k < m) = true := decide_eq_true (by omega)
        go_wp2
        exact HP.out _ _ ⟨rfl, by repeat (first | exact drawn_refl _ | refine drawn_step ?_ _)⟩
      · have HV := Lib.hid (show cmpL xs ys = 0 from by rw [← HK.out]; exact cmpL_both _ _ _ (by rw [← HN.out]; omega) (by rw [← HM.out]; omega))
        rw [HV.out] at HP
        have t1 : decide ((k : Int) < (m : Int)) = false := decide_eq_false (by omega)
        have t1' : decide (k < m) = false := decide_eq_false (by omega)
        have t2 : decide ((m : Int) < (k : Int)) = false := decide_eq_false (by omega)
        have t2' : decide (m < k) = false := decide_eq_false (by omega)
        go_wp2
        exact HP.out _ _ ⟨rfl, by repeat (first | exact drawn_refl _ | refine drawn_step ?_ _)⟩

/-- Are two lists of lists one? -/
def sameB (xs ys : List (List Int)) : Bool := decide (xs.length = ys.length ∧ ∀ i, i < xs.length → cmpL (nth xs i) (nth ys i) = 0)
set_option maxRecDepth 100000 in
set_option maxHeartbeats 1000000 in
theorem Same_any (ok : Nat → Prop) (A B : Option Addr) (n m c d : Nat) (xs ys : List (List Int)) (w : World) (hn : n = xs.length) (hm : m = ys.length) (h1 : Row Kd.i64.slice w ok A xs) (h2 : Row Kd.i64.slice w ok B ys) :
    Calls Try.prog 17 #[.slice A n c, .slice B m d] w fun e w' => e = .returned (.bool (sameB xs ys)) ∧ Drawn w w' := by
  refine veil fun R HP => ?_
  have hl := h1.1
  rw [← hn] at hl
  have H1 := Lib.hid h1
  have H2 := Lib.hid h2
  have HN := Lib.hid hn
  have HM := Lib.hid hm
  clear h1 h2 hn hm
  by_cases hnm : n = m
  · subst hnm
    have t1 : ((n : Int) != (n : Int)) = false := by simp
    go_enter Try.func17, Try.ntmps17
    go_wp2
    go_loopw [13] (fun i w' => ∃ k : Nat, k ≤ n ∧ i = .int .i64 (k : Int) ∧ Hid (∀ a, a < k → cmpL (nth xs a) (nth ys a) = 0) ∧ Drawn w w') (fun i _ => n - (intOf i).toNat)
    case atStart => exact ⟨0, by omega, by go_num, Lib.hid (fun a ha => by omega), drawn_refl w⟩
    case round =>
      obtain ⟨k, hk, rfl, HK, hw⟩ := hrel
      have HW := Lib.hid hw
      clear hw
      by_cases hlt : k < n
      · obtain ⟨ad, A1, e1, rfl, c1, l1, -, r1⟩ := (H1.out.ext (drawn_ext HW.out)).sub (i := k) (by rw [← HN.out]; exact hlt)
        obtain ⟨bd, B1, e2, rfl, c2, l2, -, r2⟩ := (H2.out.ext (drawn_ext HW.out)).sub (i := k) (by rw [← HM.out]; exact hlt)
        obtain ⟨p, hp⟩ : ∃ p, p = (nth xs k).length := ⟨_, rfl⟩
        obtain ⟨q, hq⟩ : ∃ q, q = (nth ys k).length := ⟨_, rfl⟩
        rw [← hp] at c1
        rw [← hq] at c2
        have C1 := Lib.hid fun (W : World) (hW : Drawn wr W) => rCompare_any ok A1 B1 p q e1 e2 _ _ W hp hq (r1.ext (drawn_ext hW)) (r2.ext (drawn_ext hW))
        have i1 : (0 : Int) ≤ (k : Int) := by omega
        have i2 : (k : Int) < (n : Int) := by omega
        clear r1 r2 l1 l2 hp hq
        by_cases he : cmpL (nth xs k) (nth ys k) = 0
        · have HE := Lib.hid he
          have t2 : (cmpL (nth xs k) (nth ys k) != 0) = false := by simp [he]
          clear he
          obtain ⟨vv, hvv⟩ : ∃ vv, vv = cmpL (nth xs k) (nth ys k) := ⟨_, rfl⟩
          rw [← hvv] at C1 t2
          clear hvv
          go_wp2
          go_quiet ((go_at_call 7; exact Calls.quiet_of ((C1.out _ ⟨⟨_, rfl⟩⟩).mono fun e w1 h => ⟨h.1, h.2.out⟩)))
          go_wp2
          go_roundw
          case rel =>
            refine ⟨k + 1, by omega, by go_num, Lib.hid fun a ha => ?_, by repeat (first | exact HW.out | refine drawn_step ?_ _)⟩
            by_cases h : a = k
            · subst h; exact HE.out
            · exact HK.out a (by omega)
          case measure => simp [intOf] <;> omega
        · have t2 : (cmpL (nth xs k) (nth ys k) != 0) = true := by simpa using he
          have HF := Lib.hid (show sameB xs ys = false from decide_eq_false fun h => he (h.2 k (by rw [← HN.out]; exact hlt)))
          rw [HF.out] at HP
          obtain ⟨vv, hvv⟩ : ∃ vv, vv = cmpL (nth xs k) (nth ys k) := ⟨_, rfl⟩
          rw [← hvv] at C1 t2
          clear hvv he
          go_wp2
          go_quiet ((go_at_call 7; exact Calls.quiet_of ((C1.out _ ⟨⟨_, rfl⟩⟩).mono fun e w1 h => ⟨h.1, h.2.out⟩)))
          go_wp2
          exact HP.out _ _ ⟨rfl, by repeat (first | exact HW.out | refine drawn_step ?_ _)⟩
      · obtain rfl : k = n := by omega
        have HF := Lib.hid (show sameB xs ys = true from decide_eq_true ⟨by rw [← HN.out]; exact HM.out, by rw [← HN.out]; exact HK.out⟩)
        rw [HF.out] at HP
        go_wp2
        exact HP.out _ _ ⟨rfl, HW.out⟩
  · have t1 : ((n : Int) != (m : Int)) = true := by simp; omega
    have HF := Lib.hid (show sameB xs ys = false from decide_eq_false fun h => hnm (by rw [HN.out, HM.out]; exact h.1))
    rw [HF.out] at HP
    clear hnm
    go_enter Try.func17, Try.ntmps17
    go_wp2
    exact HP.out _ _ ⟨rfl, drawn_refl w⟩

set_option maxRecDepth 100000 in
set_option maxHeartbeats 1000000 in
theorem inside_any (ok : Nat → Prop) (A : Option Addr) (n c : Nat) (xs : List Int) (w : World) (hn : n = xs.length) (h1 : Row Kd.i64 w ok A xs) :
    Calls Try.prog 21 #[.slice A n c] w fun e w' => e = .returned (.bool (inB xs)) ∧ w = w' := by
  refine veil fun R HP => ?_
  have hl := h1.1
  rw [← hn] at hl
  have H1 := Lib.hid h1
  have HN := Lib.hid hn
  clear h1 hn
  go_enter Try.func21, Try.ntmps21
  go_wp2
  go_loop [7] (fun i => ∃ k : Nat, k ≤ n ∧ i = .int .i64 (k : Int) ∧ Hid (∀ a, a < k → -1099511627776 ≤ nth xs a ∧ nth xs a ≤ 1099511627776)) (fun i => n - (intOf i).toNat)
  case atStart => exact ⟨0, by omega, by go_num, Lib.hid (fun a ha => by omega)⟩
  case round =>
    obtain ⟨k, hk, rfl, HK⟩ := hrel
    by_cases hlt : k < n
    · obtain ⟨ad, rfl, c1, x1, x2⟩ := H1.out.num (i := k) (by rw [← HN.out]; exact hlt)
      obtain ⟨x, hx⟩ : ∃ x, x = nth xs k := ⟨_, rfl⟩
      rw [← hx] at c1 x1 x2
      have HX := Lib.hid hx
      clear hx
      by_cases hlo : x < -1099511627776
      · have HF := Lib.hid (show inB xs = false from decide_eq_false fun h => by have := (h k (by rw [← HN.out]; exact hlt)).1; rw [← HX.out] at this; omega)
        rw [HF.out] at HP
        have t1 : decide (x < -1099511627776) = true := decide_eq_true hlo
        clear hlo
        go_wp2
        exact HP.out _ _ ⟨rfl, rfl⟩
      · have t1 : decide (x < -1099511627776) = false := decide_eq_false hlo
        by_cases hhi : 1099511627776 < x
        · have HF := Lib.hid (show inB xs = false from decide_eq_false fun h => by have := (h k (by rw [← HN.out]; exact hlt)).2; rw [← HX.out] at this; omega)
          rw [HF.out] at HP
          have t2 : decide (1099511627776 < x) = true := decide_eq_true hhi
          clear hlo hhi
          go_wp2
          exact HP.out _ _ ⟨rfl, rfl⟩
        · have t2 : decide (1099511627776 < x) = false := decide_eq_false hhi
          have HB := Lib.hid (And.intro hlo hhi)
          clear hlo hhi
          go_wp2
          go_round
          case rel =>
            refine ⟨k + 1, by omega, by go_num, Lib.hid fun a ha => ?_⟩
            by_cases h : a = k
            · subst h; rw [← HX.out]; have := HB.out; omega
            · exact HK.out a (by omega)
          case measure => simp [intOf] <;> omega
    · obtain rfl : k = n := by omega
      have HI := Lib.hid (show inB xs = true from decide_eq_true (by rw [← HN.out]; exact HK.out))
      rw [HI.out] at HP
      go_wp2
      exact HP.out _ _ ⟨rfl, rfl⟩

/-- The content of a list. -/
def cont (g : Nat) : List Int → Nat
  | [] => g
  | x :: xs => cont (Nat.gcd g x.natAbs) xs
theorem cont_take (xs : List Int) (k : Nat) (h : k < xs.length) : cont 0 (xs.take (k + 1)) = Nat.gcd (cont 0 (xs.take k)) (nth xs k).natAbs := by
  have key : ∀ (ys : List Int) (g : Nat) (z : Int), cont g (ys ++ [z]) = Nat.gcd (cont g ys) z.natAbs := by
    intro ys
    induction ys with
    | nil => intro g z; rfl
    | cons y ys ih => intro g z; exact ih _ _
  rw [nth_eq xs k h, List.take_succ_eq_append_getElem h, key]
theorem cont_le (xs : List Int) (h : ∀ i, i < xs.length → -9223372036854775808 ≤ nth xs i ∧ nth xs i ≤ 9223372036854775807) (k : Nat) (hk : k ≤ xs.length) : cont 0 (xs.take k) ≤ 9223372036854775808 := by
  induction k with
  | zero => simp [cont]
  | succ k ih =>
    rw [cont_take xs k (by omega)]
    have h1 := h k (by omega)
    have h2 := ih (by omega)
    by_cases h0 : (nth xs k).natAbs = 0
    · rw [h0, Nat.gcd_zero_right]; exact h2
    · have := Nat.gcd_le_right (m := cont 0 (xs.take k)) (n := (nth xs k).natAbs) (by omega)
      omega
theorem Row.nums {w : World} {ok : Nat → Prop} {A : Option Addr} {xs : List Int} (h : Row Kd.i64 w ok A xs) : ∀ i, i < xs.length → -9223372036854775808 ≤ nth xs i ∧ nth xs i ≤ 9223372036854775807 := fun i hi => by
  obtain ⟨_, _, _, h1, h2⟩ := h.num hi
  exact ⟨h1, h2⟩
set_option maxRecDepth 100000 in
set_option maxHeartbeats 1000000 in
theorem vContent_any (ok : Nat → Prop) (A : Option Addr) (n c : Nat) (xs : List Int) (w : World) (hn : n = xs.length) (h1 : Row Kd.i64 w ok A xs) :
    Calls Try.prog 12 #[.slice A n c] w fun e w' => e = .returned (.int .u64 ((cont 0 xs : Nat) : Int)) ∧ Drawn w w' := by
  refine veil fun R HP => ?_
  have hl := h1.1
  rw [← hn] at hl
  have H1 := Lib.hid h1
  have HN := Lib.hid hn
  clear h1 hn
  go_enter Try.func12, Try.ntmps12
  go_wp2
  go_loopw [3, 10] (fun u i w' => ∃ k : Nat, k ≤ n ∧ i = .int .i64 (k : Int) ∧ u = .int .u64 ((cont 0 (xs.take k) : Nat) : Int) ∧ Hid (Drawn w w')) (fun _ i _ => n - (intOf i).toNat)
  case atStart => exact ⟨0, by omega, by go_num, rfl, Lib.hid (drawn_refl w)⟩
  case round =>
    obtain ⟨k, hk, rfl, rfl, HW⟩ := hrel
    by_cases hlt : k < n
    · obtain ⟨ad, rfl, c1, x1, x2⟩ := (H1.out.ext (drawn_ext HW.out)).num (i := k) (by rw [← HN.out]; exact hlt)
      obtain ⟨x, hx⟩ : ∃ x, x = nth xs k := ⟨_, rfl⟩
      rw [← hx] at c1 x1 x2
      have HX := Lib.hid hx
      have HT := Lib.hid (cont_take xs k (by rw [← HN.out]; exact hlt))
      have hg := cont_le xs H1.out.nums k (by rw [← HN.out]; omega)
      obtain ⟨g, hgg⟩ : ∃ g, g = cont 0 (xs.take k) := ⟨_, rfl⟩
      rw [← hgg] at hg HT ⊢
      clear hx hgg
      by_cases hneg : x < 0
      · have t1 : decide (x < 0) = true := decide_eq_true hneg
        go_wp2
        clear c1
        go_loopw [6, 7] (fun u v w' => ∃ a b : Nat, u = .int .u64 (a : Int) ∧ v = .int .u64 (b : Int) ∧ a ≤ 9223372036854775808 ∧ b ≤ 9223372036854775808 ∧ Hid (Nat.gcd a b = Nat.gcd g x.natAbs) ∧ Hid (Drawn w w')) (fun _ v _ => (intOf v).toNat)
        case atStart => exact ⟨g, x.natAbs, rfl, by rw [show IntKind.u64.wrap (-IntKind.u64.wrap x) = ((x.natAbs : Nat) : Int) from by rw [IntKind.wrap_u64, IntKind.wrap_u64]; omega], hg, by omega, Lib.hid rfl, HW⟩
        case round =>
          obtain ⟨a, b, rfl, rfl, ha, hb, HG, hv⟩ := hrel
          clear t1
          by_cases h0 : 0 < b
          · have t2 : decide ((0 : Int) < (b : Int)) = true := decide_eq_true (by omega)
            have j1 : (0 : Int) ≤ (a : Int) := by omega
            have j2 : (0 : Int) < (b : Int) := by omega
            have j3 : ((b : Int) == 0) = false := by simp; omega
            have j4 : ¬ ((b : Int) = 0) := by omega
            go_wp2
            go_quiet (fail)
            go_wp2
            go_roundw
            case rel => exact ⟨b, a % b, rfl, by first | rfl | (rw [Int.tmod_eq_emod_of_nonneg (by omega)]; rfl), hb, by have := Nat.mod_lt a h0; omega, Lib.hid (by rw [Nat.gcd_comm, ← Nat.gcd_rec, Nat.gcd_comm]; exact HG.out), by first | exact hv | exact Lib.hid (drawn_step hv.out _) | exact Lib.hid (drawn_step (drawn_step hv.out _) _)⟩
            case measure =>
              have := Nat.mod_lt a h0
              simp [intOf]
              first | omega | (rw [Int.tmod_eq_emod_of_nonneg (by omega)]; omega)
          · obtain rfl : b = 0 := by omega
            have HE := Lib.hid (show a = cont 0 (xs.take (k + 1)) from by rw [HT.out, ← HX.out, ← HG.out, Nat.gcd_zero_right])
            have t2 : decide ((0 : Int) < ((0 : Nat) : Int)) = false := by decide
            go_wp2
            go_roundw
            case rel => exact ⟨k + 1, by omega, by go_num, by rw [← HE.out], hv⟩
            case measure => simp [intOf] <;> omega
      · have t1 : decide (x < 0) = false := decide_eq_false hneg
        go_wp2
        clear c1
        go_loopw [6, 7] (fun u v w' => ∃ a b : Nat, u = .int .u64 (a : Int) ∧ v = .int .u64 (b : Int) ∧ a ≤ 9223372036854775808 ∧ b ≤ 9223372036854775808 ∧ Hid (Nat.gcd a b = Nat.gcd g x.natAbs) ∧ Hid (Drawn w w')) (fun _ v _ => (intOf v).toNat)
        case atStart => exact ⟨g, x.natAbs, rfl, by rw [show x = ((x.natAbs : Nat) : Int) from by omega, Int.natAbs_natCast], hg, by omega, Lib.hid rfl, HW⟩
        case round =>
          obtain ⟨a, b, rfl, rfl, ha, hb, HG, hv⟩ := hrel
          clear t1
          by_cases h0 : 0 < b
          · have t2 : decide ((0 : Int) < (b : Int)) = true := decide_eq_true (by omega)
            have j1 : (0 : Int) ≤ (a : Int) := by omega
            have j2 : (0 : Int) < (b : Int) := by omega
            have j3 : ((b : Int) == 0) = false := by simp; omega
            have j4 : ¬ ((b : Int) = 0) := by omega
            go_wp2
            go_quiet (fail)
            go_wp2
            go_roundw
            case rel => exact ⟨b, a % b, rfl, by first | rfl | (rw [Int.tmod_eq_emod_of_nonneg (by omega)]; rfl), hb, by have := Nat.mod_lt a h0; omega, Lib.hid (by rw [Nat.gcd_comm, ← Nat.gcd_rec, Nat.gcd_comm]; exact HG.out), by first | exact hv | exact Lib.hid (drawn_step hv.out _) | exact Lib.hid (drawn_step (drawn_step hv.out _) _)⟩
            case measure =>
              have := Nat.mod_lt a h0
              simp [intOf]
              first | omega | (rw [Int.tmod_eq_emod_of_nonneg (by omega)]; omega)
          · obtain rfl : b = 0 := by omega
            have HE := Lib.hid (show a = cont 0 (xs.take (k + 1)) from by rw [HT.out, ← HX.out, ← HG.out, Nat.gcd_zero_right])
            have t2 : decide ((0 : Int) < ((0 : Nat) : Int)) = false := by decide
            go_wp2
            go_roundw
            case rel => exact ⟨k + 1, by omega, by go_num, by rw [← HE.out], hv⟩
            case measure => simp [intOf] <;> omega
    · obtain rfl : k = n := by omega
      have HE := Lib.hid (show cont 0 (xs.take k) = cont 0 xs from by rw [HN.out, List.take_length])
      rw [HE.out]
      go_wp2
      exact HP.out _ _ ⟨rfl, HW.out⟩
end Go.Proofs.Ythibocafjkbeeaa
