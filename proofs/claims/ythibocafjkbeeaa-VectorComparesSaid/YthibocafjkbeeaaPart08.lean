/-
  bareiss.Definite: what it returns at a symmetric matrix. Condition: the matrix is square with at most 16 rows, and all numbers of the eliminations are among those that are spoken of.
-/
import Derived.Test.YthibocafjkbeeaaPart07
set_option linter.unusedVariables false
set_option linter.unusedSimpArgs false
namespace Go.Proofs.Ythibocafjkbeeaa
open Go.RowKit

theorem ord_self (x : Int) : ord x x = 0 := by simp [ord]
theorem all_kept6 {w w1 : World} (hb : Below w.heap.size w w1) {p1 p2 p3 p4 p5 p6 : Addr} {u1 u2 u3 u4 u5 u6 : Value} (h : w.cell? p1 = some u1 ∧ w.cell? p2 = some u2 ∧ w.cell? p3 = some u3 ∧ w.cell? p4 = some u4 ∧ w.cell? p5 = some u5 ∧ w.cell? p6 = some u6) :
    w1.cell? p1 = some u1 ∧ w1.cell? p2 = some u2 ∧ w1.cell? p3 = some u3 ∧ w1.cell? p4 = some u4 ∧ w1.cell? p5 = some u5 ∧ w1.cell? p6 = some u6 :=
  ⟨kept hb h.1, kept hb h.2.1, kept hb h.2.2.1, kept hb h.2.2.2.1, kept hb h.2.2.2.2.1, kept hb h.2.2.2.2.2⟩
/-- All entries of a list are positive. -/
def posi (xs : List Int) : Bool := decide (∀ i, i < xs.length → 0 < nth xs i)
set_option maxRecDepth 100000 in
set_option maxHeartbeats 1000000 in
theorem Definite_any (ok : Nat → Prop) (A : Option Addr) (n c : Nat) (m : List (List Int)) (w : World) (hS : Sq m n) (hdet : ∀ k, 1 ≤ k → k ≤ n → DetOk k k 0 (fun i j => nth (nth m i) j) 1) (hsym : ∀ i j, i < n → j < n → nth (nth m i) j = nth (nth m j) i) (h : Row Kd.big.slice w ok A m) :
    Calls Try.prog 50 #[.slice A n c] w fun e w' => e = .returned (.bool (posi (lead m n))) ∧ Below w.heap.size w w' := by
  refine veil fun R HP => ?_
  have HR := Lib.hid h
  have HS := Lib.hid hS
  have HY := Lib.hid hsym
  have HT := Lib.hid hdet
  have hl16 := hS.le
  clear h hS hsym hdet
  go_enter Try.func50, Try.ntmps50
  go_wp2_with fail
  with_reducible refine (Leading_any ok A n c m _ HS.out HT.out HR.out).mono ?_
  rintro e w1 ⟨A2, c2, hL, rfl, hb⟩
  have HL := Lib.hid hL.2.2
  have B1 := Lib.hid hb
  clear hL hb
  go_wp2
  go_loopw [16] (fun i w' => ∃ k : Nat, k ≤ n ∧ i = .int .i64 (k : Int) ∧ Hid (∀ l, l < k → 0 < nth (lead m n) l) ∧ Hid (Below w1.heap.size w1 w')) (fun i _ => n - (intOf i).toNat)
  case atStart => exact ⟨0, by omega, by go_num, Lib.hid (fun l hl => by omega), Lib.hid (Below.refl _ _)⟩
  case round =>
    obtain ⟨k, hk, rfl, HK, HW⟩ := hrel
    by_cases hlt : k < n
    · go_wp2
      go_loopw [20] (fun i w' => ∃ j : Nat, j ≤ k ∧ i = .int .i64 (j : Int) ∧ Hid (Below w1.heap.size w1 w')) (fun i _ => k - (intOf i).toNat)
      case atStart => exact ⟨0, by omega, by go_num, HW⟩
      case round =>
        obtain ⟨j, hj, rfl, HJ⟩ := hrel
        by_cases hlt2 : j < k
        · have HR2 := Lib.hid ((HR.out.ext B1.out).ext HJ.out)
          obtain ⟨ad, B1', e1, rfl, d1, -, -, h1⟩ := HR2.out.sub (i := k) (by rw [HS.out.len]; omega)
          obtain ⟨ad2, B2', e2, e3, d2, -, -, h2⟩ := HR2.out.sub (i := j) (by rw [HS.out.len]; omega)
          obtain rfl : ad = ad2 := by injection e3
          rw [HS.out.row k hlt] at d1
          rw [HS.out.row j (by omega)] at d2
          obtain ⟨bd, E1, p1, q1, rfl, x1, y1, v1⟩ := h1.bigAt (i := j) (by rw [HS.out.row k hlt]; omega)
          obtain ⟨be, E2, p2, q2, rfl, x2, y2, v2⟩ := h2.bigAt (i := k) (by rw [HS.out.row j (by omega)]; omega)
          rw [HY.out j k (by omega) hlt] at x2 v2
          obtain ⟨x, hx⟩ : ∃ x, x = nth (nth m k) j := ⟨_, rfl⟩
          rw [← hx] at x1 x2 v1 v2
          have CC := Lib.hid (And.intro d1 (And.intro x1 (And.intro y1 (And.intro d2 (And.intro x2 y2)))))
          have V1 := Lib.hid v1
          have V2 := Lib.hid v2
          have i1 : (0 : Int) ≤ (j : Int) := by omega
          have i2 : (j : Int) < (k : Int) := by omega
          have i3 : (0 : Int) ≤ (k : Int) := by omega
          have i4 : (k : Int) < (n : Int) := by omega
          have i5 : (j : Int) < (n : Int) := by omega
          clear v1 v2 h1 h2 e3 d1 d2 x1 x2 y1 y2 hx
          go_wp2
          go_region_held3 (fun w' => w'.cell? (ad.add k) = some (.slice (some bd) n e1) ∧ w'.cell? (bd.add (j * 2)) = some (.bool (decide (x < 0))) ∧ w'.cell? ⟨(bd.add (j * 2)).block, (bd.add (j * 2)).off + 1, none⟩ = some (.slice E1 p1 q1) ∧ w'.cell? (ad.add j) = some (.slice (some be) n e2) ∧ w'.cell? (be.add (k * 2)) = some (.bool (decide (x < 0))) ∧ w'.cell? ⟨(be.add (k * 2)).block, (be.add (k * 2)).off + 1, none⟩ = some (.slice E2 p2 q2))
            (first | exact all_kept6 (ext_drew (Below.refl _ _)) CC.out | exact all_kept6 B3.out CC.out | exact CC.out)
            (first
              | (go_at_call 33; refine (Cmp_big ok _ _ _ _ _ (V1.out.ext (ext_drew (Below.refl _ _))) (V2.out.ext (ext_drew (Below.refl _ _)))).mono ?_; rintro e w3 ⟨rfl, hb⟩; have B3 := Lib.hid (ext_trans (show Below wr.heap.size wr _ from ext_drew (Below.refl _ _)) hb); rw [ord_self]; clear hb))
          go_wp2
          go_roundw
          case rel => exact ⟨j + 1, by omega, by go_num, Lib.hid (ext_trans HJ.out B3.out)⟩
          case measure => simp [intOf] <;> omega
        · obtain rfl : j = k := by omega
          obtain ⟨ad, E1, p1, q1, rfl, x1, y1, v1⟩ := (HL.out.ext HJ.out).bigAt (i := j) (by rw [lead_length]; exact hlt)
          obtain ⟨x, hx⟩ : ∃ x, x = nth (lead m n) j := ⟨_, rfl⟩
          rw [← hx] at x1 v1
          have V1 := Lib.hid v1
          have HX := Lib.hid hx
          have i3 : (0 : Int) ≤ (j : Int) := by omega
          have i4 : (j : Int) < (n : Int) := by omega
          clear v1 hx
          go_wp2_with fail
          with_reducible refine (Sign_big _ _ _ _ V1.out).mono ?_
          rintro e w3 ⟨rfl, hb⟩
          have B3 := Lib.hid hb
          clear hb x1 y1
          by_cases hp : 0 < x
          · have t1 : ¬ (x.sign ≤ 0) := by rw [Int.sign_eq_one_of_pos hp]; omega
            go_wp2
            go_roundw
            case rel =>
              refine ⟨j + 1, by omega, by go_num, Lib.hid fun l hl => ?_, Lib.hid (ext_trans HJ.out B3.out)⟩
              by_cases h : l = j
              · subst h; rw [← HX.out]; exact hp
              · exact HK.out l (by omega)
            case measure => simp [intOf] <;> omega
          · have t1 : x.sign ≤ 0 := by
              rcases Int.lt_trichotomy x 0 with h | h | h
              · rw [Int.sign_eq_neg_one_of_neg h]; omega
              · subst h; simp
              · omega
            have hf : posi (lead m n) = false := by
              simp only [posi, decide_eq_false_iff_not]
              intro h
              exact hp (by rw [HX.out]; exact h j (by rw [lead_length]; exact hlt))
            rw [hf] at HP
            go_wp2
            exact HP.out _ _ ⟨rfl, ext_trans B1.out (ext_trans HJ.out B3.out)⟩
    · obtain rfl : k = n := by omega
      have hf : posi (lead m k) = true := by
        simp only [posi, decide_eq_true_eq]
        intro i hi
        rw [lead_length] at hi
        exact HK.out i hi
      rw [hf] at HP
      go_wp2
      exact HP.out _ _ ⟨rfl, ext_trans B1.out HW.out⟩
end Go.Proofs.Ythibocafjkbeeaa
/-
  gram.Validate: what it returns. Condition: all numbers of the eliminations are among those that are spoken of.
-/
namespace Go.Proofs.Ythibocafjkbeeaa
open Go.RowKit

/-- The matrix of n rows is symmetric. -/
def symm (m : List (List Int)) (n : Nat) : Bool := decide (∀ i, i < n → ∀ j, j < i → nth (nth m i) j = nth (nth m j) i)
theorem symm_all {m : List (List Int)} {n : Nat} (h : symm m n = true) : ∀ i j, i < n → j < n → nth (nth m i) j = nth (nth m j) i := by
  simp only [symm, decide_eq_true_eq] at h
  intro i j hi hj
  rcases Nat.lt_trichotomy i j with g | g | g
  · exact (h j hj i g).symm
  · rw [g]
  · exact h i hi j g
/-- The code that gram.Validate returns. -/
def vcode (m : List (List Int)) : Int :=
  if shp m = true ∧ (nth m 0).length = m.length ∧ m.length ≤ 8 then (if symm m m.length = true then (if posi (lead m m.length) = true then 0 else 5) else 4) else 3
theorem sq_of {m : List (List Int)} (h : shp m = true) (h2 : (nth m 0).length = m.length) : Sq m m.length := by
  have := shp_spec h
  exact ⟨rfl, by omega, by omega, fun i hi => by rw [this.2.2.2.2 i hi, h2]⟩
set_option maxRecDepth 100000 in
set_option maxHeartbeats 1000000 in
theorem Validate_any (ok : Nat → Prop) (A : Option Addr) (n c : Nat) (m : List (List Int)) (w : World) (hn : n = m.length) (hdet : Sq m n → n ≤ 8 → symm m n = true → ∀ k, 1 ≤ k → k ≤ n → DetOk k k 0 (fun i j => nth (nth m i) j) 1) (h : Row Kd.big.slice w ok A m) :
    Calls Try.prog 31 #[.slice A n c] w fun e w' => e = .returned (.int .i64 (vcode m)) ∧ Below w.heap.size w w' := by
  subst hn
  refine veil fun R HP => ?_
  have HR := Lib.hid h
  have HT := Lib.hid hdet
  clear h hdet
  obtain ⟨n, hn⟩ : ∃ n, n = m.length := ⟨_, rfl⟩
  have HN := Lib.hid hn
  rw [← hn]
  clear hn
  go_enter Try.func31, Try.ntmps31
  go_wp2_with fail
  with_reducible refine (Shape_any Kd.big ok A n c m _ HN.out HR.out).mono ?_
  rintro e w1 ⟨rfl, hw⟩
  have B1 := Lib.hid (drawn_ext hw)
  clear hw
  rcases Bool.eq_false_or_eq_true (shp m) with hs | hs
  · have hv : ∀ z, vcode m = z → Hid (vcode m = z) := fun z h => h
    have hrw : rws m = n := by rw [rws, hs, if_pos rfl]; exact HN.out.symm
    obtain ⟨q, hq⟩ : ∃ q, q = (nth m 0).length := ⟨_, rfl⟩
    have hcl : cls m = q := by rw [cls, hs, if_pos rfl, hq]
    have HQ := Lib.hid hq
    have HSH := Lib.hid hs
    rw [hrw, hcl, hs]
    clear hrw hcl hs hq
    by_cases hnq : q = n
    · by_cases h8 : n ≤ 8
      · subst hnq
        have HS := Lib.hid (show Sq m q from by have := sq_of HSH.out (by rw [← HQ.out]; exact HN.out); rwa [← HN.out] at this)
        have t1 : ((q : Int) != (q : Int)) = false := by simp
        have t2 : ¬ ((8 : Int) < (q : Int)) := by omega
        go_wp2
        go_loopw [27] (fun i w' => ∃ k : Nat, k ≤ q ∧ i = .int .i64 (k : Int) ∧ Hid (∀ a, a < k → ∀ b, b < a → nth (nth m a) b = nth (nth m b) a) ∧ Hid (Below w1.heap.size w1 w')) (fun i _ => q - (intOf i).toNat)
        case atStart => exact ⟨0, by omega, by go_num, Lib.hid (fun l hl => by omega), Lib.hid (Below.refl _ _)⟩
        case round =>
          obtain ⟨k, hk, rfl, HK, HW⟩ := hrel
          by_cases hlt : k < q
          · go_wp2
            go_loopw [31] (fun i w' => ∃ j : Nat, j ≤ k ∧ i = .int .i64 (j : Int) ∧ Hid (∀ b, b < j → nth (nth m k) b = nth (nth m b) k) ∧ Hid (Below w1.heap.size w1 w')) (fun i _ => k - (intOf i).toNat)
            case atStart => exact ⟨0, by omega, by go_num, Lib.hid (fun l hl => by omega), HW⟩
            case round =>
              obtain ⟨j, hj, rfl, HJK, HJ⟩ := hrel
              by_cases hlt2 : j < k
              · have HR2 := Lib.hid ((HR.out.ext B1.out).ext HJ.out)
                obtain ⟨ad, B1', e1, rfl, d1, -, -, h1⟩ := HR2.out.sub (i := k) (by rw [HS.out.len]; omega)
                obtain ⟨ad2, B2', e2, e3, d2, -, -, h2⟩ := HR2.out.sub (i := j) (by rw [HS.out.len]; omega)
                obtain rfl : ad = ad2 := by injection e3
                rw [HS.out.row k hlt] at d1
                rw [HS.out.row j (by omega)] at d2
                obtain ⟨bd, E1, p1, q1, rfl, x1, y1, v1⟩ := h1.bigAt (i := j) (by rw [HS.out.row k hlt]; omega)
                obtain ⟨be, E2, p2, q2, rfl, x2, y2, v2⟩ := h2.bigAt (i := k) (by rw [HS.out.row j (by omega)]; omega)
                obtain ⟨x, hx⟩ : ∃ x, x = nth (nth m k) j := ⟨_, rfl⟩
                obtain ⟨y, hy⟩ : ∃ y, y = nth (nth m j) k := ⟨_, rfl⟩
                rw [← hx] at x1 v1
                rw [← hy] at x2 v2
                have CC := Lib.hid (And.intro d1 (And.intro x1 (And.intro y1 (And.intro d2 (And.intro x2 y2)))))
                have V1 := Lib.hid v1
                have V2 := Lib.hid v2
                have HX := Lib.hid hx
                have HY := Lib.hid hy
                have i1 : (0 : Int) ≤ (j : Int) := by omega
                have i2 : (j : Int) < (k : Int) := by omega
                have i3 : (0 : Int) ≤ (k : Int) := by omega
                have i4 : (k : Int) < (q : Int) := by omega
                have i5 : (j : Int) < (q : Int) := by omega
                clear v1 v2 h1 h2 e3 d1 d2 x1 x2 y1 y2 hx hy
                go_wp2
                go_region_held3 (fun w' => w'.cell? (ad.add k) = some (.slice (some bd) q e1) ∧ w'.cell? (bd.add (j * 2)) = some (.bool (decide (x < 0))) ∧ w'.cell? ⟨(bd.add (j * 2)).block, (bd.add (j * 2)).off + 1, none⟩ = some (.slice E1 p1 q1) ∧ w'.cell? (ad.add j) = some (.slice (some be) q e2) ∧ w'.cell? (be.add (k * 2)) = some (.bool (decide (y < 0))) ∧ w'.cell? ⟨(be.add (k * 2)).block, (be.add (k * 2)).off + 1, none⟩ = some (.slice E2 p2 q2))
                  (first | exact all_kept6 (ext_drew (Below.refl _ _)) CC.out | exact all_kept6 B3.out CC.out | exact CC.out)
                  (first
                    | (go_at_call 33; refine (Cmp_big ok _ _ _ _ _ (V1.out.ext (ext_drew (Below.refl _ _))) (V2.out.ext (ext_drew (Below.refl _ _)))).mono ?_; rintro e w3 ⟨rfl, hb⟩; have B3 := Lib.hid (ext_trans (show Below wr.heap.size wr _ from ext_drew (Below.refl _ _)) hb); clear hb))
                by_cases hxy : x = y
                · have t3 : (ord x y != 0) = false := by rw [hxy, ord_self]; rfl
                  have HXY := Lib.hid hxy
                  clear hxy
                  go_wp2
                  go_roundw
                  case rel =>
                    refine ⟨j + 1, by omega, by go_num, Lib.hid fun b hb => ?_, Lib.hid (ext_trans HJ.out B3.out)⟩
                    by_cases h : b = j
                    · subst h; rw [← HX.out, ← HY.out]; exact HXY.out
                    · exact HJK.out b (by omega)
                  case measure => simp [intOf] <;> omega
                · have t3 : (ord x y != 0) = true := by
                    simp only [ord, bne_iff_ne, ne_eq]
                    split
                    · omega
                    · split <;> omega
                  have hv : vcode m = 4 := by
                    rw [vcode, if_pos ⟨HSH.out, by rw [← HN.out, ← HQ.out], by rw [← HN.out]; exact h8⟩, if_neg]
                    rw [← HN.out]
                    simp only [symm, decide_eq_true_eq]
                    intro h
                    exact hxy (by rw [HX.out, HY.out]; exact h k hlt j hlt2)
                  rw [hv] at HP
                  go_wp2
                  exact HP.out _ _ ⟨rfl, ext_trans B1.out (ext_trans HJ.out B3.out)⟩
              · obtain rfl : j = k := by omega
                go_wp2
                go_roundw
                case rel =>
                  refine ⟨j + 1, by omega, by go_num, Lib.hid fun a ha b hb => ?_, HJ⟩
                  by_cases h : a = j
                  · subst h; exact HJK.out b hb
                  · exact HK.out a (by omega) b hb
                case measure => simp [intOf] <;> omega
          · obtain rfl : k = q := by omega
            have HSY := Lib.hid (show symm m k = true from by simp only [symm, decide_eq_true_eq]; exact HK.out)
            have hv : vcode m = if posi (lead m k) = true then 0 else 5 := by
              rw [vcode, if_pos ⟨HSH.out, by rw [← HN.out, ← HQ.out], by rw [← HN.out]; exact h8⟩, ← HN.out, if_pos HSY.out]
            rw [hv] at HP
            have HTK := HT.out
            rw [← HN.out] at HTK
            have HDD := Lib.hid (HTK HS.out h8 HSY.out)
            clear HTK hv
            go_wp2_with fail
            with_reducible refine (Definite_any ok A k c m _ HS.out HDD.out (symm_all HSY.out) (HR.out.ext (ext_trans B1.out HW.out))).mono ?_
            rintro e w3 ⟨rfl, hb⟩
            have B3 := Lib.hid (ext_trans (ext_trans B1.out HW.out) hb)
            clear hb
            rcases Bool.eq_false_or_eq_true (posi (lead m k)) with hp | hp
            · rw [hp, if_pos rfl] at HP
              rw [hp]
              go_wp2
              exact HP.out _ _ ⟨rfl, B3.out⟩
            · rw [hp, if_neg (by decide)] at HP
              rw [hp]
              go_wp2
              exact HP.out _ _ ⟨rfl, B3.out⟩
      · have hv : vcode m = 3 := by rw [vcode, if_neg (by rw [← HN.out]; omega)]
        subst hnq
        rw [hv] at HP
        have t1 : ((q : Int) != (q : Int)) = false := by simp
        have t2 : ((8 : Int) < (q : Int)) := by omega
        go_wp2
        exact HP.out _ _ ⟨rfl, B1.out⟩
    · have hv : vcode m = 3 := by rw [vcode, if_neg (by rw [← HN.out, ← HQ.out]; omega)]
      rw [hv] at HP
      have t1 : ((n : Int) != (q : Int)) = true := by simp; omega
      go_wp2
      exact HP.out _ _ ⟨rfl, B1.out⟩
  · have hv : vcode m = 3 := by rw [vcode, if_neg (by rw [hs]; simp)]
    rw [hv] at HP
    rw [hs]
    go_wp2
    exact HP.out _ _ ⟨rfl, B1.out⟩
end Go.Proofs.Ythibocafjkbeeaa
/-
  The stages of the elimination without row exchanges, and the state of bareiss.Stages in memory. No condition: plain definitions and theorems.
-/
namespace Go.Proofs.Ythibocafjkbeeaa
open Go.RowKit

/-- Stage k, and the pivot of the stage ahead of it. -/
def stg (m : List (List Int)) (n : Nat) : Nat → List (List Int) × Int
  | 0 => (m, 1)
  | k + 1 => (nxt (stg m n k).1 (stg m n k).2 (n - k - 1) (n - k - 1), nth (nth (stg m n k).1 0) 0)
def stl (m : List (List Int)) (n j : Nat) : List (List (List Int)) := (List.range j).map fun k => (stg m n k).1
theorem stl_step (m : List (List Int)) (n j : Nat) : stl m n (j + 1) = stl m n j ++ [(stg m n j).1] := by simp [stl, List.range_succ]
theorem stl_length (m : List (List Int)) (n j : Nat) : (stl m n j).length = j := by simp [stl]
theorem nth_stl (m : List (List Int)) (n j i : Nat) (h : i < j) : nth (stl m n j) i = (stg m n i).1 := by unfold stl; exact nth_map_range _ _ _ h
theorem sq_nxt (m : List (List Int)) (last : Int) (s : Nat) (h1 : 1 ≤ s) (h2 : s ≤ 16) : Sq (nxt m last s s) s := by
  refine ⟨by simp [nxt], h1, h2, fun i hi => ?_⟩
  unfold nxt
  rw [nth_map_range _ _ _ hi, nxRow_length]
theorem sq_stg {m : List (List Int)} {n : Nat} (h : Sq m n) : ∀ k, k < n → Sq (stg m n k).1 (n - k)
  | 0, _ => h
  | k + 1, hk => sq_nxt _ _ _ (by omega) (by have := h.le; omega)
section
variable {α : Type} {k : Kd α} {w w' : World} {base : Nat} {T : TypeId} {ok : Nat → Prop} {v : Value} {xs : List α}
theorem Grow.lit (x : Value) (y : α) (hb : base ≤ w.heap.size) (hs : k.size = 1) (hK : k.K (w.alloc (.cells #[x] T)) (fun b => ok b ∧ b ≠ w.heap.size) y [x]) : Grow k (w.alloc (.cells #[x] T)) base T ok (.slice (some ⟨w.heap.size, 0, none⟩) 1 1) [y] := by
  refine ⟨[x], ?_, fun i hi => ?_⟩
  · rw [hs]
    exact World.ownsRow_lit w #[x] 1 hb (by simp [maxLen]) rfl
  · have h0 : i = 0 := by simp at hi; omega
    subst h0
    rw [hs]
    exact k.weak hK fun b hb _ => ⟨hb.1, fun e => hb.2 (by simpa [Value.ownBlock] using e.symm)⟩
theorem Grow.at_ [Inhabited α] (h : Grow k w base T ok v xs) {i : Nat} (hi : i < xs.length) : ∃ g cap cs, v = .slice (some ⟨g, 0, none⟩) xs.length cap ∧ xs.length ≤ cap ∧ cap ≤ 9223372036854775807 ∧ k.K w (fun b => ok b ∧ v.ownBlock ≠ some b) (nth xs i) cs ∧ ∀ j u, cs[j]? = some u → w.cell? ⟨g, i * k.size + j, none⟩ = some u := by
  obtain ⟨cs, h1, h2⟩ := h.out
  have h1' := h1
  obtain ⟨hl, hv⟩ := h1
  rcases hv with ⟨rfl, hn⟩ | ⟨g, cap, cur, rfl, hb, hh, hc, hm, hs, ht⟩
  · omega
  · simp only [maxLen] at hm
    refine ⟨g, cap, _, rfl, hc, by omega, by rw [nth_eq xs i hi]; exact h2 i hi, fun j u hu => ?_⟩
    have hj : j < k.size := by
      rcases Nat.lt_or_ge j k.size with hj | hj
      · exact hj
      · rw [List.getElem?_eq_none (by rw [List.length_take]; omega)] at hu; cases hu
    rw [List.getElem?_take_of_lt hj, List.getElem?_drop] at hu
    have := h1'.cells (g := g) rfl (i * k.size + j) u hu
    rwa [show (⟨g, 0, none⟩ : Addr).add (i * k.size + j) = ⟨g, i * k.size + j, none⟩ from by
      rcases Nat.eq_zero_or_pos (i * k.size + j) with h0 | h0
      · rw [h0]; rfl
      · rw [add_pos' _ h0]; simp] at this
theorem Grow.out_own (h : Grow k w base T (fun b => ok b ∨ v.ownBlock = some b) v xs) : ∃ A c, v = .slice A xs.length c ∧ xs.length ≤ c ∧ c ≤ 9223372036854775807 ∧ Row k w (fun b => ok b ∨ v.ownBlock = some b) A xs := by
  obtain ⟨cs, h1, h2⟩ := h.out
  have h1' := h1
  obtain ⟨hl, hv⟩ := h1
  rcases hv with ⟨rfl, hn⟩ | ⟨g, cap, cur, rfl, hb, hh, hc, hm, hs, ht⟩
  · have : xs = [] := List.eq_nil_of_length_eq_zero hn
    subst this
    exact ⟨none, 0, rfl, by simp, by omega, Row.nil _ _ _⟩
  · simp only [maxLen] at hm
    refine ⟨_, cap, rfl, hc, by omega, by omega, fun hp => ⟨_, rfl, .inr rfl, ?_, fun i hi => ⟨_, k.weak (h2 i hi) fun b hb _ => hb.1, fun j u hu => ?_⟩⟩⟩
    · rcases Nat.lt_or_ge g w.heap.size with hlt | hge
      · exact hlt
      · rw [Array.getElem?_eq_none hge] at hh; cases hh
    · refine h1'.cells (g := g) rfl _ u ?_
      have hj : j < k.size := by
        rcases Nat.lt_or_ge j k.size with hj | hj
        · exact hj
        · rw [List.getElem?_eq_none (by rw [List.length_take]; omega)] at hu; cases hu
      rw [List.getElem?_take_of_lt hj, List.getElem?_drop] at hu
      exact hu
theorem Grow.row' (h : Grow k w base T ok v xs) (hok : ∀ g, base ≤ g → v.ownBlock = some g → ok g) : ∃ A c, v = .slice A xs.length c ∧ xs.length ≤ c ∧ c ≤ 9223372036854775807 ∧ Row k w ok A xs := by
  obtain ⟨A, c, e, h1, h2, h3⟩ := (h.weak (ok' := fun b => ok b ∨ v.ownBlock = some b) fun b hb _ => .inl hb).out_own
  exact ⟨A, c, e, h1, h2, h3.weak fun b hb hl => hb.elim id fun e => hok b (h.lt b e).1 e⟩
theorem Grow.far (h : Grow k w base T ok v xs) {p : Addr} (hp : v.ownBlock ≠ some p.block) (hok : ∀ b, ok b → b ≠ p.block) (u : Value) : Grow k (w.setCell p u) base T ok v xs := by
  obtain ⟨cs, h1, h2⟩ := h.out
  have hg : w.grownBy (w.setCell p u) (some p.block) := ⟨rfl, rfl, rfl, by simp [World.setCell], fun b _ hb => Below.heap_setCell w p u b fun e => hb (by rw [e])⟩
  exact ⟨cs, h1.kept hg (.inr hp), fun i hi => k.keep (h2 i hi) fun b hb _ => Below.heap_setCell w p u b (hok b hb.1)⟩
end
/-- The blocks that the stages' list may meet: not the box of the last pivot. -/
def Bx (w : World) (ok : Nat → Prop) (tb : Nat) : Nat → Prop := fun b => Up (Old w ok) w.heap.size b ∧ b ≠ tb
structure SG (w w' : World) (ok : Nat → Prop) (tb : Nat) (v : Value) (xs : List (List (List Int))) (last : Int) (B : Option Addr) (a c : Nat) : Prop where
  grow : Grow Kd.big.slice.slice w' w.heap.size 65 (Bx w ok tb) v xs
  own : v.ownBlock ≠ some tb
  box : Own w' tb 59 [.bool (decide (last < 0)), .slice B a c]
  big : Big w' (fun b => Bx w ok tb b ∧ v.ownBlock ≠ some b) (.agg #[.bool (decide (last < 0)), .slice B a c]) last
  ext : Below w.heap.size w w'
  ge : w.heap.size ≤ tb
section
variable {w w1 w2 w3 : World} {ok : Nat → Prop} {tb : Nat} {v v' : Value} {xs ys : List (List (List Int))} {last z : Int} {B A : Option Addr} {a c l d : Nat}
theorem SG.move (h : SG w w1 ok tb v xs last B a c) (hb : Below w1.heap.size w1 w2) : SG w w2 ok tb v xs last B a c :=
  ⟨h.grow.ext hb, h.own, h.box.ext hb, h.big.ext hb, ext_trans h.ext hb, h.ge⟩
theorem SG.fresh (h : SG w w1 ok tb v xs last B a c) {β : Type} {j : Kd β} {y : β} {cs : List Value} (hz : j.K w3 (Up (fun b => Bx w ok tb b ∧ v.ownBlock ≠ some b) w1.heap.size) y cs) : j.K w3 (fun b => Bx w ok tb b ∧ v.ownBlock ≠ some b) y cs := by
  refine j.weak hz fun b hb _ => ?_
  rcases hb with hb | hb
  · exact hb
  · have := h.ext.size
    have := h.box.lt
    exact ⟨⟨.inr (by omega), by omega⟩, fun e => by have := (h.grow.lt b e).2; omega⟩
/-- A number lives on when the list has grown. -/
theorem SG.lives (h : SG w w1 ok tb v xs last B a c) {x : Value} (hz : Big w1 (fun b => Bx w ok tb b ∧ v.ownBlock ≠ some b) x z) (hr : w1.grownBy w2 v.ownBlock) (hv : v'.ownBlock = v.ownBlock ∨ v'.ownBlock = some w1.heap.size) : Big w2 (fun b => Bx w ok tb b ∧ v'.ownBlock ≠ some b) x z := by
  have h1 : Big w1 (fun b => (Bx w ok tb b ∧ v.ownBlock ≠ some b) ∧ v'.ownBlock ≠ some b) x z := hz.weak fun b hb hl => ⟨hb, by
    rcases hv with e | e
    · rw [e]; exact hb.2
    · rw [e]; intro g; injection g with g; omega⟩
  exact (h1.keep fun b hb hl => hr.block b hl (fun e => hb.1.2 e.symm)).weak fun b hb _ => ⟨hb.1.1, hb.2⟩
theorem SG.push (h : SG w w1 ok tb v xs last B a c) (hg : Grow Kd.big.slice.slice w2 w.heap.size 65 (Bx w ok tb) v' ys) (hr : w1.grownBy w2 v.ownBlock) (hv : v'.ownBlock = v.ownBlock ∨ v'.ownBlock = some w1.heap.size) : SG w w2 ok tb v' ys last B a c := by
  refine ⟨hg, ?_, h.box.keep (hr.block tb h.box.lt (fun e => h.own e.symm)), h.lives h.big hr hv, ext_grown h.ext hr fun k e => (h.grow.lt k e).1, h.ge⟩
  rcases hv with e | e
  · rw [e]; exact h.own
  · rw [e]; intro g; injection g with g; have := h.box.lt; omega
theorem SG.store (h : SG w w1 ok tb v xs last B a c) (hz : Big w1 (fun b => Bx w ok tb b ∧ v.ownBlock ≠ some b) (.agg #[.bool (decide (z < 0)), .slice A l d]) z) :
    SG w ((w1.setCell ⟨tb, 0, none⟩ (.bool (decide (z < 0)))).setCell ⟨tb, 1, none⟩ (.slice A l d)) ok tb v xs z A l d := by
  have c1 := h.box.cell 0
  have c2 := set_apart (w := w1) (p := ⟨tb, 0, none⟩) (q := ⟨tb, 1, none⟩) (u := .bool (decide (z < 0))) (by simp) (h.box.cell 1)
  exact ⟨(h.grow.far h.own (fun b hb => hb.2) _).far h.own (fun b hb => hb.2) _, h.own, (h.box.set_ 0 _).set_ 1 _, set_big (set_big hz c1 (fun x h => by cases h) _) c2 (fun x h => by cases h) _, ext_set (ext_set h.ext h.ge _) h.ge _, h.ge⟩
theorem SG.at_box (h : SG w w1 ok tb v xs last B a c) {s : Nat} (hs : tb = s) : w1.cell? ⟨s, 0, none⟩ = some (.bool (decide (last < 0))) ∧ w1.cell? ⟨s, 1, none⟩ = some (.slice B a c) ∧ w1.frozen? ⟨s, 0, none⟩ = false ∧ w1.frozen? ⟨s, 1, none⟩ = false := by
  subst hs
  exact ⟨h.box.cell 0, h.box.cell 1, h.box.free 0, h.box.free 1⟩
theorem SG.start {w w2 w3 : World} {ok : Nat → Prop} {s1 n c2 : Nat} {A2 B : Option Addr} {a c : Nat} {m : List (List Int)} {z : Int} (h2 : Below w.heap.size w w2) (hs1 : w.heap.size ≤ s1) (hn : n = m.length) (hc : n ≤ c2) (hc2 : c2 ≤ 9223372036854775807) (hR : Row Kd.big.slice w2 (Up (Old w ok) s1) A2 m)
    (hb : Below (w2.alloc (.cells #[.slice A2 n c2] 65)).heap.size (w2.alloc (.cells #[.slice A2 n c2] 65)) w3) (hz : Big w3 (Up (Old w ok) (w2.alloc (.cells #[.slice A2 n c2] 65)).heap.size) (.agg #[.bool (decide (z < 0)), .slice B a c]) z) :
    SG w (w3.alloc (.cells #[.bool (decide (z < 0)), .slice B a c] 59)) ok w3.heap.size (.slice (some ⟨w2.heap.size, 0, none⟩) 1 1) [m] z B a c := by
  have e1 : (w2.alloc (.cells #[.slice A2 n c2] 65)).heap.size = w2.heap.size + 1 := by simp
  have s2 := h2.size
  have s3 := hb.size
  rw [e1] at s3
  have hG : Grow Kd.big.slice.slice (w2.alloc (.cells #[.slice A2 n c2] 65)) w.heap.size 65 (Bx w ok w3.heap.size) (.slice (some ⟨w2.heap.size, 0, none⟩) 1 1) [m] := by
    refine Grow.lit _ _ s2 rfl (slice_K hn hc hc2 ((hR.weak (ok' := fun b => Bx w ok w3.heap.size b ∧ b ≠ w2.heap.size) fun b hb hl => ?_).alloc _))
    refine ⟨⟨?_, by omega⟩, by omega⟩
    rcases hb with hb | hb
    · exact .inl hb
    · exact .inr (by omega)
  refine ⟨(hG.ext hb).ext (ext_alloc (Below.refl _ _) _), by simp [Value.ownBlock]; omega, Own.new w3 _ _, ?_, ext_alloc (ext_trans (ext_alloc h2 _) hb) _, by omega⟩
  refine (hz.weak fun b hb' hl => ?_).ext (ext_alloc (Below.refl _ _) _)
  rw [e1] at hb'
  rcases hb' with hb' | hb'
  · have := hb'.2
    exact ⟨⟨.inl hb', by omega⟩, by simp [Value.ownBlock]; omega⟩
  · exact ⟨⟨.inr (by omega), by omega⟩, by simp [Value.ownBlock]; omega⟩
end
end Go.Proofs.Ythibocafjkbeeaa
/-
  bareiss.Stages: what it returns. Condition: the matrix is square with at most 8 rows, no pivot is 0, and all numbers on the way are among those that are spoken of.
-/
namespace Go.Proofs.Ythibocafjkbeeaa
open Go.RowKit

theorem info_mats : (Try.prog.info? 65).map (fun i => (i.zero, i.size, i.bytes)) = some (some (.slice none 0 0), 1, 24) := by kernel_rfl
set_option maxRecDepth 100000 in
set_option maxHeartbeats 1000000 in
theorem Stages_any (ok : Nat → Prop) (A : Option Addr) (n c : Nat) (m : List (List Int)) (w : World) (hS : Sq m n) (hsm : ∀ i j, i < n → j < n → Sm (nth (nth m i) j)) (hpiv : ∀ k, k + 1 < n → nth (nth (stg m n k).1 0) 0 ≠ 0) (hok : ∀ k, k + 1 < n → NxOk (stg m n k).1 (n - k) (stg m n k).2) (h : Row Kd.big.slice w ok A m) :
    Calls Try.prog 32 #[.slice A n c] w fun e w' => ∃ A2 c2, (n ≤ c2 ∧ c2 ≤ 9223372036854775807 ∧ Row Kd.big.slice.slice w' (Up ok w.heap.size) A2 (stl m n n)) ∧ e = .returned (.tuple #[.slice A2 n c2, .bool true]) ∧ Below w.heap.size w w' := by
  refine veil fun R HP => ?_
  have HR := Lib.hid (h.weak (ok' := Old w ok) fun b h1 h2 => ⟨h1, h2⟩)
  have HS := Lib.hid hS
  have HM := Lib.hid hsm
  have HV := Lib.hid hpiv
  have HO := Lib.hid hok
  have hl16 := hS.le
  have hl1 := hS.pos
  clear h hS hsm hpiv hok
  go_enter Try.func32, Try.ntmps32
  go_wp2_with fail
  with_reducible refine (square_any Kd.big (Old w ok) A n c m _ HS.out.len.symm HR.out).mono ?_
  rintro e w1 ⟨rfl, hw⟩
  rw [HS.out.rws, HS.out.cls, HS.out.shp]
  have B1 := Lib.hid (drawn_ext hw)
  have t1 : (true && decide (n = n)) = true := by simp
  rw [t1]
  clear hw t1
  go_wp2_with fail
  with_reducible refine (normal_any (Old w ok) A n c m _ HS.out.len.symm hl16 (fun i hi => by rw [HS.out.row i hi]; exact hl16) (fun i j hi hj => HM.out i j hi (by rw [HS.out.row i hi] at hj; exact hj)) (HR.out.ext B1.out)).mono ?_
  rintro e w2 ⟨A2, c2, hN, rfl, hb⟩
  have N2 := Lib.hid hN
  have B2 := Lib.hid (ext_trans B1.out hb)
  clear hb hN
  have E2 := Lib.hid (ext_alloc (Below.refl w2.heap.size w2) (.cells #[.slice A2 n c2] 65))
  go_wp2_with fail
  with_reducible refine (Small_big (Old w ok) 1 _ (by omega) (by omega)).mono ?_
  rintro e w3 ⟨v, hv, rfl, hb⟩
  obtain ⟨A3, l3, d3, rfl⟩ := (show ∃ A m c, v = .agg #[.bool (decide ((1 : Int) < 0)), .slice A m c] from hv.lit)
  have S0 := Lib.hid (SG.start (z := 1) B2.out B1.out.size HS.out.len.symm N2.out.1 N2.out.2.1 N2.out.2.2 hb hv)
  obtain ⟨tb, htb⟩ : ∃ tb, tb = w3.heap.size := ⟨_, rfl⟩
  have HTB := Lib.hid htb
  rw [← htb] at S0
  clear hb hv htb
  go_wp2
  go_loopw [6, 8] (fun v i w' => ∃ (k : Nat) (last : Int) (B : Option Addr) (a c : Nat), k + 1 ≤ n ∧ i = .int .i64 ((k : Int) + 1) ∧ Hid (last = (stg m n k).2) ∧ Hid (SG w w' ok tb v (stl m n (k + 1)) last B a c)) (fun _ i _ => n - (intOf i).toNat)
  case atStart => exact ⟨0, 1, A3, l3, d3, by omega, by go_num, Lib.hid rfl, S0⟩
  case round =>
    obtain ⟨k, last, B, a, c', hk, rfl, HLA, HG⟩ := hrel
    by_cases hlt : k + 1 < n
    · obtain ⟨g, cap, cs, rfl, hcap, hcap2, ⟨A5, c5, rfl, f1, f2, f3⟩, hcs⟩ := HG.out.grow.at_ (i := k) (by rw [stl_length]; omega)
      have s1 := hcs 0 _ rfl
      rw [show k * Kd.big.slice.slice.size + 0 = k from by simp [Kd.slice]] at s1
      rw [nth_stl _ _ _ _ (by omega)] at s1 f1 f3
      rw [stl_length] at HG f3
      have SQ := Lib.hid (sq_stg HS.out k (by omega))
      rw [SQ.out.len] at s1 f1
      obtain ⟨ad, E1, e1, rfl, a1, a2, -, h1⟩ := f3.sub (i := 0) (by rw [SQ.out.len]; omega)
      obtain ⟨bd, E2, p2, q2, rfl, x1, y1, v1⟩ := h1.bigAt (i := 0) (by rw [SQ.out.row 0 (by omega)]; omega)
      rw [add_zero'] at a1
      rw [show (0 * 2 : Nat) = 0 from rfl, add_zero'] at x1 y1
      rw [SQ.out.row 0 (by omega)] at a1
      have F3 := Lib.hid f3
      have V1 := Lib.hid v1
      have HP0 := Lib.hid (HV.out k hlt)
      obtain ⟨pv, hpv⟩ : ∃ pv, pv = nth (nth (stg m n k).1 0) 0 := ⟨_, rfl⟩
      rw [← hpv] at x1 V1 HP0
      have HPV := Lib.hid hpv
      have i1 : (0 : Int) ≤ (k : Int) := by omega
      have i2 : (k : Int) < ((k + 1 : Nat) : Int) := by omega
      have i3 : 0 < n - k := by omega
      have i4 : (k : Int) + 1 < (n : Int) := by omega
      rw [stl_length]
      clear hcs f3 h1 v1 hpv
      have PB := Lib.hid (Own.new wr 59 #[.bool (decide (pv < 0)), .slice E2 p2 q2])
      have PE := Lib.hid (ext_alloc (Below.refl wr.heap.size wr) (.cells #[.bool (decide (pv < 0)), .slice E2 p2 q2] 59))
      go_wp2_with fail
      with_reducible refine (Sign_big _ _ _ _ (V1.out.ext PE.out)).mono ?_
      rintro e w4 ⟨rfl, hb⟩
      have t1 : (pv.sign == 0) = false := by simp; exact HP0.out
      have E4 := Lib.hid (ext_trans PE.out hb)
      have PB4 := Lib.hid (PB.out.ext hb)
      have G4 := Lib.hid (HG.out.move E4.out)
      have s3 : w4.cell? ⟨w3.heap.size, 0, none⟩ = some (.bool (decide (last < 0))) := by rw [← HTB.out]; exact G4.out.box.cell 0
      have s4 : w4.cell? ⟨w3.heap.size, 1, none⟩ = some (.slice B a c') := by rw [← HTB.out]; exact G4.out.box.cell 1
      clear hb s1 a1 a2 x1 y1 PE
      go_wp2_with fail
      have NO := Lib.hid (HO.out k hlt)
      rw [← HLA.out] at NO
      refine (next_any (fun b => Bx w ok tb b ∧ (Value.slice (some ⟨g, 0, none⟩) (k + 1) cap).ownBlock ≠ some b) (some ad) (n - k) c5 (stg m n k).1 last B a c' w4 SQ.out (by omega) f1 f2 NO.out G4.out.big (F3.out.ext E4.out)).mono ?_
      rintro e w5 ⟨A6, c6, hx, rfl, hb⟩
      have hy : Row Kd.big.slice w5 (Up (fun b => Bx w ok tb b ∧ (Value.slice (some ⟨g, 0, none⟩) (k + 1) cap).ownBlock ≠ some b) w4.heap.size) A6 (stg m n (k + 1)).1 := by
        have := hx.2.2
        rw [HLA.out] at this
        exact this
      have YL := Lib.hid (show n - k - 1 = (stg m n (k + 1)).1.length from by rw [(sq_stg HS.out (k + 1) hlt).len]; omega)
      have Y5 := Lib.hid (G4.out.fresh (j := Kd.big.slice.slice) (slice_K YL.out hx.1 hx.2.1 (hy.alloc (.cells #[.slice A6 (n - k - 1) c6] 65))))
      have o1 := Lib.hid (one_cell w5 (.slice A6 (n - k - 1) c6) 65 rfl)
      have E5 := Lib.hid (ext_alloc hb (.cells #[.slice A6 (n - k - 1) c6] 65))
      have X5 := Lib.hid (G4.out.move E5.out)
      have PB5 := Lib.hid (PB4.out.ext E5.out)
      have VP5 := Lib.hid ((V1.out.ext E4.out).ext E5.out)
      have hgl := (HG.out.grow.lt g rfl).2
      have GL := Lib.hid hgl
      clear hx hy hb s3 s4 hgl
      go_wp2_with (at_builtin; (refine wpList_push (k := Kd.big.slice.slice) rfl (.tmp 40) (.tmp 44) 70 rfl (.slice none 0 0) 24 Try.underlying70 info_mats rfl (show 0 < 1 by omega) rfl X5.out.grow (stg m n (k + 1)).1 [.slice A6 (n - k - 1) c6] Y5.out ⟨w5.heap.size, 0, none⟩ 1 rfl o1.out (one_one _ _ _) (by rw [stl_length]; omega) (by rw [stl_length]; omega) X5.out.ext.size ?_); (intro v' w6 hg6 hr6 hv6; have G6 := Lib.hid (X5.out.push (ys := stl m n (k + 1 + 1)) (by rw [stl_step]; exact hg6) hr6 hv6); have PB6 := Lib.hid (PB5.out.keep (hr6.block wr.heap.size PB5.out.lt (fun e => by have h1 := GL.out; have h2 : wr.heap.size = g := Option.some.inj e; omega))); have VP6 := Lib.hid (X5.out.lives VP5.out hr6 hv6); have ⟨s3, s4, s5, s6⟩ := G6.out.at_box HTB.out; have r0 : w6.cell? ⟨wr.heap.size, 0, none⟩ = some (.bool (decide (pv < 0))) := PB6.out.cell 0; have r1 : w6.cell? ⟨wr.heap.size, 1, none⟩ = some (.slice E2 p2 q2) := PB6.out.cell 1; clear hg6 hr6 hv6))
      go_roundw
      case rel => exact ⟨k + 1, pv, E2, p2, q2, by omega, by go_num, Lib.hid (by rw [HPV.out]; rfl), Lib.hid (by rw [← HTB.out]; exact G6.out.store VP6.out)⟩
      case measure => simp [intOf] <;> omega
    · obtain rfl : n = k + 1 := by omega
      have t1 : ¬ ((k : Int) + 1 < ((k + 1 : Nat) : Int)) := by omega
      obtain ⟨A9, c9, rfl, e1, e2, e3⟩ := HG.out.grow.row' fun g hg ho => ⟨.inr hg, fun e => HG.out.own (by rw [ho, e])⟩
      have Y9 := Lib.hid (And.intro e1 (And.intro e2 (e3.weak (ok' := Up ok w.heap.size) fun b hb _ => hb.1.elim (fun h => .inl h.1) .inr)))
      have EX := Lib.hid HG.out.ext
      rw [stl_length] at e1 HG Y9
      rw [stl_length]
      clear e1 e2 e3
      go_wp2
      exact HP.out _ _ ⟨A9, c9, Y9.out, rfl, EX.out⟩
end Go.Proofs.Ythibocafjkbeeaa
/-
  lll.times and lll.pivot: what they return. Condition: the numbers are among those that are spoken of.
-/
namespace Go.Proofs.Ythibocafjkbeeaa
open Go.RowKit

/-- A box with a number, and the result's cell behind it. -/
structure TB (W : World) (s : Nat) (b : Bool) (A : Option Addr) (l d : Nat) : Prop where
  a : Own W s 59 [.bool b, .slice A l d]
  r : Own W (s + 1) 59 [.bool false, .slice none 0 0]
theorem TB.ext {W W' : World} {s : Nat} {b : Bool} {A : Option Addr} {l d : Nat} (h : TB W s b A l d) (hb : Below W.heap.size W W') : TB W' s b A l d := ⟨h.a.ext hb, h.r.ext hb⟩
theorem TB.new (w : World) (b : Bool) (A : Option Addr) (l d : Nat) : TB ((w.alloc (.cells #[.bool b, .slice A l d] 59)).alloc (.cells #[.bool false, .slice none 0 0] 59)) w.heap.size b A l d := by
  have s1 : (w.alloc (.cells #[.bool b, .slice A l d] 59)).heap.size = w.heap.size + 1 := by simp
  refine ⟨(Own.new w _ _).alloc _, ?_⟩
  have := Own.new (w.alloc (.cells #[.bool b, .slice A l d] 59)) 59 #[.bool false, .slice none 0 0]
  rwa [s1] at this
theorem all_kept2 {w w1 : World} (hb : Below w.heap.size w w1) {p1 p2 : Addr} {u1 u2 : Value} (h : w.cell? p1 = some u1 ∧ w.cell? p2 = some u2) : w1.cell? p1 = some u1 ∧ w1.cell? p2 = some u2 := ⟨kept hb h.1, kept hb h.2⟩
set_option maxRecDepth 100000 in
set_option maxHeartbeats 1000000 in
theorem scale_any (ok : Nat → Prop) (c : Int) (x : Int) (A : Option Addr) (l d : Nat) (w : World) (h1 : -9223372036854775808 ≤ c) (h2 : c ≤ 9223372036854775807) (hx : Sm x) (h : Big w ok (.agg #[.bool (decide (x < 0)), .slice A l d]) x) :
    Calls Try.prog 58 #[.int .i64 c, .agg #[.bool (decide (x < 0)), .slice A l d]] w fun e w' => ∃ v, Big w' (Up ok w.heap.size) v (c * x) ∧ e = .returned v ∧ Below w.heap.size w w' := by
  refine veil fun R HP => ?_
  have T0 := Lib.hid (TB.new w (decide (x < 0)) A l d)
  have B0 := Lib.hid (ext_alloc (ext_alloc (Below.refl w.heap.size w) (.cells #[.bool (decide (x < 0)), .slice A l d] 59)) (.cells #[.bool false, .slice none 0 0] 59))
  have V0 := Lib.hid (h.ext B0.out)
  have HX := Lib.hid hx
  clear h hx
  go_enter Try.func58, Try.ntmps58
  go_wp2_with fail
  generalize (w.alloc (.cells #[.bool (decide (x < 0)), .slice A l d] 59)).alloc (.cells #[.bool false, .slice none 0 0] 59) = w0 at T0 B0 V0 ⊢
  have a0 : w0.cell? ⟨w.heap.size, 0, none⟩ = some (.bool (decide (x < 0))) := T0.out.a.cell 0
  have a1 : w0.cell? ⟨w.heap.size, 1, none⟩ = some (.slice A l d) := T0.out.a.cell 1
  have CC := Lib.hid (And.intro a0 a1)
  clear a0 a1
  go_region_held3 (fun w' => w'.cell? ⟨w.heap.size, 0, none⟩ = some (.bool (decide (x < 0))) ∧ w'.cell? ⟨w.heap.size, 1, none⟩ = some (.slice A l d))
    (first | exact all_kept2 (ext_drew (Below.refl _ _)) CC.out | exact all_kept2 B4.out CC.out | exact all_kept2 B3.out CC.out | exact ⟨set_far (by simp) (set_far (by simp) (kept B4.out CC.out.1)), set_far (by simp) (set_far (by simp) (kept B4.out CC.out.2))⟩ | exact CC.out)
    (first
      | (go_at_call 35; refine (Small_big ok c _ h1 h2).mono ?_; rintro e w3 ⟨v, hv, rfl, hb⟩; obtain ⟨A3, l3, d3, rfl⟩ := hv.lit; have B3 := Lib.hid (ext_trans (show Below w0.heap.size w0 _ from ext_drew (Below.refl _ _)) hb); have Y3 := Lib.hid (hv.upTo (C := w.heap.size) B0.out.size); clear hb hv)
      | (go_at_call 40; refine (Mul_big (Up ok w.heap.size) _ _ _ _ _ Y3.out ((V0.out.ext B3.out).weak fun b h _ => .inl h) (Sm_64 h1 h2) HX.out).mono ?_; rintro e w4 ⟨v, hv, rfl, hb⟩; obtain ⟨A4, l4, d4, rfl⟩ := hv.lit; have Y4 := Lib.hid (hv.up2' (B := w.heap.size) (Nat.le_trans B0.out.size B3.out.size)); have B4 := Lib.hid (ext_trans B3.out hb); have T4 := Lib.hid (T0.out.ext B4.out); have r0 := T4.out.r.cell 0; have r1 := T4.out.r.cell 1; have f0 := T4.out.r.free 0; have f1 := T4.out.r.free 1; clear hb hv))
  go_wp2
  refine bodyPost_ret (v := .agg #[.bool (decide (c * x < 0)), .slice A4 l4 d4]) (by simp [results, Try.results58, go_sem, r0, r1]) rfl (HP.out _ _ ⟨_, ?_, rfl, ?_⟩)
  · exact set_big (set_big Y4.out r0 (fun x h => by cases h) _) (set_apart (by simp) r1) (fun x h => by cases h) _
  · exact ext_set (ext_set (ext_trans B0.out B4.out) (by simp) _) (by simp) _
/-- The leading minor of order i, off the stages. -/
def piv (ms : List (List (List Int))) (i : Nat) : Int := if i = 0 then 1 else nth (nth (nth ms (i - 1)) 0) 0
set_option maxRecDepth 100000 in
set_option maxHeartbeats 1000000 in
theorem pivot_any (ok : Nat → Prop) (A : Option Addr) (n c : Nat) (ms : List (List (List Int))) (i : Nat) (w : World) (hn : n = ms.length) (hi : i ≤ n) (hne : ∀ k, k < n → 0 < (nth ms k).length ∧ 0 < (nth (nth ms k) 0).length) (h : Row Kd.big.slice.slice w ok A ms) :
    Calls Try.prog 34 #[.slice A n c, .int .i64 (i : Int)] w fun e w' => ∃ v, Big w' (Up ok w.heap.size) v (piv ms i) ∧ e = .returned v ∧ Below w.heap.size w w' := by
  refine veil fun R HP => ?_
  have O0 := Lib.hid (Own.new w 59 #[.bool false, .slice none 0 0])
  have B0 := Lib.hid (ext_alloc (Below.refl w.heap.size w) (.cells #[.bool false, .slice none 0 0] 59))
  have hl := h.1
  rw [← hn] at hl
  have HR := Lib.hid h
  clear h
  rcases Nat.eq_zero_or_pos i with rfl | hp
  · have HPV := Lib.hid (show piv ms 0 = 1 from rfl)
    rw [HPV.out] at HP
    clear hne hn
    go_enter Try.func34, Try.ntmps34
    go_wp2_with fail
    with_reducible refine (Small_big ok 1 _ (by omega) (by omega)).mono ?_
    rintro e w1 ⟨v, hv, rfl, hb⟩
    obtain ⟨A6, l6, d6, rfl⟩ := hv.lit
    have Y6 := Lib.hid (hv.upTo B0.out.size)
    have O1 := Lib.hid (O0.out.ext hb)
    have B1 := Lib.hid (ext_trans B0.out hb)
    have r0 := O1.out.cell 0
    have r1 := O1.out.cell 1
    have f0 := O1.out.free 0
    have f1 := O1.out.free 1
    clear hv hb
    go_wp2
    refine bodyPost_ret (v := .agg #[.bool (decide ((1 : Int) < 0)), .slice A6 l6 d6]) (by simp [results, Try.results34, go_sem, r0, r1]) rfl (HP.out _ _ ⟨_, ?_, rfl, ?_⟩)
    · exact set_big (set_big Y6.out r0 (fun x h => by cases h) _) (set_apart (by simp) r1) (fun x h => by cases h) _
    · exact ext_set (ext_set B1.out (by simp) _) (by simp) _
  · obtain ⟨j, rfl⟩ : ∃ j, i = j + 1 := ⟨i - 1, by omega⟩
    have hj := hne j (by omega)
    obtain ⟨ad, M, e0, rfl, a1, a2, -, h1⟩ := HR.out.sub (i := j) (by omega)
    obtain ⟨bd, N, e1, rfl, b1, b2, -, h2⟩ := h1.sub (i := 0) hj.1
    obtain ⟨cd, E2, p2, q2, rfl, x1, y1, v1⟩ := h2.bigAt (i := 0) hj.2
    rw [add_zero'] at b1
    rw [show (0 * 2 : Nat) = 0 from rfl, add_zero'] at x1 y1
    obtain ⟨x, hx⟩ : ∃ x, x = nth (nth (nth ms j) 0) 0 := ⟨_, rfl⟩
    have HPV := Lib.hid (show piv ms (j + 1) = x from hx.symm)
    rw [HPV.out] at HP
    rw [← hx] at x1 v1
    obtain ⟨s1, hs1⟩ : ∃ s1, s1 = (nth ms j).length := ⟨_, rfl⟩
    obtain ⟨s2, hs2⟩ : ∃ s2, s2 = (nth (nth ms j) 0).length := ⟨_, rfl⟩
    rw [← hs1, ← hs2] at hj
    rw [← hs1] at a1 a2
    rw [← hs2] at b1 b2
    obtain ⟨hj1, hj2⟩ := hj
    have V1 := Lib.hid v1
    replace a1 := kept B0.out a1
    replace b1 := kept B0.out b1
    replace x1 := kept B0.out x1
    replace y1 := kept B0.out y1
    have O9 := Lib.hid (Own.new w 59 #[.bool (decide (x < 0)), .slice E2 p2 q2])
    have r0 := O9.out.cell 0
    have r1 := O9.out.cell 1
    have f0 := O0.out.free 0
    have f1 := O0.out.free 1
    have i1 : (0 : Int) ≤ (j : Int) := by omega
    have i2 : (j : Int) < (n : Int) := by omega
    have i3 : j < n := by omega
    rw [show ((j + 1 : Nat) : Int) = (j : Int) + 1 from by omega]
    have t1 : ((j : Int) + 1 == 0) = false := by simp; omega
    clear hne hn h1 h2 v1 hx hs1 hs2
    go_enter Try.func34, Try.ntmps34
    go_wp2
    refine bodyPost_ret (v := .agg #[.bool (decide (x < 0)), .slice E2 p2 q2]) (by simp [results, Try.results34, go_sem]) rfl (HP.out _ _ ⟨_, (V1.out.weak fun b h _ => .inl h).ext (ext_alloc (Below.refl _ _) _), rfl, ext_alloc (Below.refl _ _) _⟩)
end Go.Proofs.Ythibocafjkbeeaa
/-
  lll.near: what it returns. Condition: the numbers are among those that are spoken of.
-/
namespace Go.Proofs.Ythibocafjkbeeaa
open Go.RowKit

theorem Big.abs {w : World} {ok : Nat → Prop} {A : Option Addr} {l d : Nat} {x : Int} (h : Big w ok (.agg #[.bool (decide (x < 0)), .slice A l d]) x) : Big w ok (.agg #[.bool false, .slice A l d]) (x.natAbs : Int) := by
  obtain ⟨A', m, c, e, h1, h2, h3, h4⟩ := h
  simp only [Value.agg.injEq] at e
  have e2 : Value.slice A l d = .slice A' m c := by injection congrArg (fun a : Array Value => a[1]?) e
  injection e2 with e3 e4 e5
  subst e3 e4 e5
  have hd : decide ((x.natAbs : Int) < 0) = false := decide_eq_false (by omega)
  exact ⟨A, l, d, by rw [hd], by rw [Int.natAbs_natCast]; exact h1, h2, h3, by rw [Int.natAbs_natCast]; exact h4⟩
theorem Sm.abs {x : Int} (h : Sm x) : Sm (x.natAbs : Int) := by unfold Sm at h ⊢; rwa [Int.natAbs_natCast]
theorem ord_le (x y : Int) : (ord x y ≤ 0) ↔ x ≤ y := by
  unfold ord
  split
  · omega
  · split <;> omega
/-- The condition of lll.near, off the stages. -/
def nearB (ms : List (List (List Int))) (i j : Nat) : Bool := decide (2 * ((nth (nth (nth ms j) (i - j)) 0).natAbs : Int) ≤ piv ms (j + 1))
/-- The stages' sizes: stage k has n - k rows, and each of them a number. -/
structure Sz (ms : List (List (List Int))) (n : Nat) : Prop where
  len : ms.length = n
  rows : ∀ k, k < n → (nth ms k).length = n - k
  row : ∀ k i, k < n → i < n - k → 0 < (nth (nth ms k) i).length
theorem Sz.piv {ms : List (List (List Int))} {n : Nat} (h : Sz ms n) : ∀ k, k < n → 0 < (nth ms k).length ∧ 0 < (nth (nth ms k) 0).length := fun k hk => ⟨by rw [h.rows k hk]; omega, h.row k 0 hk (by omega)⟩
set_option maxRecDepth 100000 in
set_option maxHeartbeats 1000000 in
theorem near_any (ok : Nat → Prop) (A : Option Addr) (n c : Nat) (ms : List (List (List Int))) (i j : Nat) (w : World) (hz : Sz ms n) (hi : i < n) (hj : j < i) (h16 : n ≤ 16) (hs : Sm (nth (nth (nth ms j) (i - j)) 0)) (h : Row Kd.big.slice.slice w ok A ms) :
    Calls Try.prog 36 #[.slice A n c, .int .i64 (i : Int), .int .i64 (j : Int)] w fun e w' => e = .returned (.bool (nearB ms i j)) ∧ Below w.heap.size w w' := by
  refine veil fun R HP => ?_
  have HR := Lib.hid h
  have HZ := Lib.hid hz
  obtain ⟨ad, M, e0, rfl, a1, -, -, h1⟩ := h.sub (i := j) (by rw [hz.len]; omega)
  obtain ⟨bd, N, e1, rfl, b1, -, -, h2⟩ := h1.sub (i := i - j) (by rw [hz.rows j (by omega)]; omega)
  obtain ⟨cd, E2, p2, q2, rfl, x1, y1, v1⟩ := h2.bigAt (i := 0) (hz.row j (i - j) (by omega) (by omega))
  rw [show (0 * 2 : Nat) = 0 from rfl, add_zero'] at x1 y1
  rw [hz.rows j (by omega)] at a1
  have hq := hz.row j (i - j) (by omega) (by omega)
  obtain ⟨s2, hs2⟩ : ∃ s2, s2 = (nth (nth ms j) (i - j)).length := ⟨_, rfl⟩
  rw [← hs2] at b1 hq
  obtain ⟨x, hx⟩ : ∃ x, x = nth (nth (nth ms j) (i - j)) 0 := ⟨_, rfl⟩
  rw [← hx] at x1 v1 hs
  have HPV := Lib.hid (show nearB ms i j = decide (2 * (x.natAbs : Int) ≤ piv ms (j + 1)) from by rw [nearB, ← hx])
  rw [HPV.out] at HP
  have V1 := Lib.hid v1
  have HSM := Lib.hid hs
  have O9 := Lib.hid (Own.new w 59 #[.bool (decide (x < 0)), .slice E2 p2 q2])
  have B9 := Lib.hid (ext_alloc (Below.refl w.heap.size w) (.cells #[.bool (decide (x < 0)), .slice E2 p2 q2] 59))
  have g0 : (w.alloc (.cells #[.bool (decide (x < 0)), .slice E2 p2 q2] 59)).cell? ⟨w.heap.size, 1, none⟩ = some (.slice E2 p2 q2) := O9.out.cell 1
  have i1 : (0 : Int) ≤ (j : Int) := by omega
  have i2 : (j : Int) < (n : Int) := by omega
  have i3 : (i : Int) - (j : Int) = ((i - j : Nat) : Int) := by omega
  have i4 : i - j < n - j := by omega
  have i5 : (0 : Int) ≤ ((i - j : Nat) : Int) := by omega
  have i6 : ((i - j : Nat) : Int) < ((n - j : Nat) : Int) := by omega
  clear h hz h1 h2 v1 hs hx hs2
  go_enter Try.func36, Try.ntmps36
  go_wp2_with fail
  have TT := scale_any ok 2 (x.natAbs : Int) E2 p2 q2 (w.alloc (.cells #[.bool (decide (x < 0)), .slice E2 p2 q2] 59)) (by omega) (by omega) HSM.out.abs (by rw [decide_eq_false (show ¬ ((x.natAbs : Int) < 0) from by omega)]; exact (V1.out.ext B9.out).abs)
  rw [decide_eq_false (show ¬ ((x.natAbs : Int) < 0) from by omega)] at TT
  with_reducible refine TT.mono ?_
  rintro e w1 ⟨v, hv, rfl, hb⟩
  obtain ⟨A6, l6, d6, rfl⟩ := hv.lit
  have Y6 := Lib.hid (hv.upTo B9.out.size)
  have B1 := Lib.hid (ext_trans B9.out hb)
  have g3 : IntKind.i64.wrap ((j : Int) + 1) = (j : Int) + 1 := by rw [IntKind.wrap_i64]; omega
  have PT := pivot_any ok (some ad) n c ms (j + 1) w1 HZ.out.len.symm (by omega) HZ.out.piv (HR.out.ext B1.out)
  rw [show ((j + 1 : Nat) : Int) = (j : Int) + 1 from by omega] at PT
  clear hv hb TT a1 b1 x1 y1 g0
  go_wp2_with fail
  with_reducible refine PT.mono ?_
  rintro e w2 ⟨v, hv, rfl, hb⟩
  obtain ⟨A7, l7, d7, rfl⟩ := hv.lit
  have Y7 := Lib.hid (hv.upTo B1.out.size)
  have Z6 := Lib.hid (Y6.out.ext hb)
  have B2 := Lib.hid (ext_trans B1.out hb)
  clear hv hb PT
  go_wp2_with fail
  with_reducible refine (Cmp_big _ _ _ _ _ _ Z6.out Y7.out).mono ?_
  rintro e w3 ⟨rfl, hb⟩
  have B3 := Lib.hid (ext_trans B2.out hb)
  clear hb
  by_cases hle : 2 * (x.natAbs : Int) ≤ piv ms (j + 1)
  · have t1 : ord (2 * (x.natAbs : Int)) (piv ms (j + 1)) ≤ 0 := (ord_le _ _).2 hle
    rw [decide_eq_true hle] at HP
    clear hle
    generalize ord (2 * (x.natAbs : Int)) (piv ms (j + 1)) = oo at t1 ⊢
    go_wp2
    exact HP.out _ _ ⟨rfl, B3.out⟩
  · have t1 : ¬ (ord (2 * (x.natAbs : Int)) (piv ms (j + 1)) ≤ 0) := fun h => hle ((ord_le _ _).1 h)
    rw [decide_eq_false hle] at HP
    clear hle
    generalize ord (2 * (x.natAbs : Int)) (piv ms (j + 1)) = oo at t1 ⊢
    have t2 := decide_eq_false t1
    go_wp2
    exact HP.out _ _ ⟨rfl, B3.out⟩
end Go.Proofs.Ythibocafjkbeeaa
/-
  A region of open order whose operations only read and make memory: each operation is shown once, whatever came up before it. No condition: plain definitions and theorems.
-/
namespace Go.Proofs.Ythibocafjkbeeaa
open Go.RowKit

/-- What a value says in a world; the list: the variables that the region has made. -/
abbrev Fact := List Nat → Value → World → Prop
def AllOf {α : Type} : List α → (α → Prop) → Prop
  | [], _ => True
  | x :: r, G => G x ∧ AllOf r G
theorem AllOf.get {α : Type} {G : α → Prop} : ∀ {l : List α}, AllOf l G → ∀ x ∈ l, G x
  | [], _, _, h => by cases h
  | y :: r, h, x, hx => by
    rcases List.mem_cons.1 hx with rfl | hx
    · exact h.1
    · exact AllOf.get h.2 x hx
theorem AllOf.mk {α : Type} {G : α → Prop} : ∀ {l : List α}, (∀ x ∈ l, G x) → AllOf l G
  | [], _ => trivial
  | y :: r, h => ⟨h y List.mem_cons_self, AllOf.mk fun x hx => h x (List.mem_cons_of_mem _ hx)⟩
/-- For all values in the marked slots. -/
def Alls : List Bool → List Value → (List Value → Prop) → Prop
  | [], [], G => G []
  | true :: m, _ :: ys, G => ∀ x, Alls m ys fun l => G (x :: l)
  | false :: m, y :: ys, G => Alls m ys fun l => G (y :: l)
  | _, _, _ => False
def Fit : List Bool → List Value → List Value → Prop
  | [], [], [] => True
  | true :: m, _ :: ys, _ :: xs => Fit m ys xs
  | false :: m, y :: ys, x :: xs => x = y ∧ Fit m ys xs
  | _, _, _ => False
theorem Alls.at_ : ∀ {m : List Bool} {ys xs : List Value} {G : List Value → Prop}, Alls m ys G → Fit m ys xs → G xs
  | [], [], [], _, h, _ => h
  | true :: m, _ :: ys, x :: xs, G, h, hf => Alls.at_ (m := m) (ys := ys) (xs := xs) (G := fun l => G (x :: l)) (h x) hf
  | false :: m, y :: ys, x :: xs, G, h, hf => by
    have e : x = y := hf.1
    subst e
    exact Alls.at_ (m := m) (ys := ys) (xs := xs) (G := fun l => G (x :: l)) h hf.2
  | [], [], _ :: _, _, _, hf => hf.elim
  | [], _ :: _, _, _, h, _ => h.elim
  | true :: _, [], _, _, h, _ => h.elim
  | false :: _, [], _, _, h, _ => h.elim
  | true :: _, _ :: _, [], _, _, hf => hf.elim
  | false :: _, _ :: _, [], _, _, hf => hf.elim
theorem Fit.refl : ∀ {m : List Bool} {ys : List Value}, m.length = ys.length → Fit m ys ys
  | [], [], _ => trivial
  | true :: m, _ :: ys, h => Fit.refl (m := m) (by simpa using h)
  | false :: m, _ :: ys, h => ⟨rfl, Fit.refl (m := m) (by simpa using h)⟩
theorem Fit.set : ∀ {m : List Bool} {ys xs : List Value} (d : Nat) (v : Value), m.getD d false = true → Fit m ys xs → Fit m ys (xs.set d v)
  | [], _, _, d, _, hd, _ => by simp at hd
  | true :: m, _ :: ys, _ :: xs, 0, _, _, hf => hf
  | true :: m, _ :: ys, _ :: xs, d + 1, v, hd, hf => Fit.set (m := m) d v (by simpa using hd) hf
  | false :: m, _ :: ys, _ :: xs, 0, _, hd, _ => by simp at hd
  | false :: m, _ :: ys, _ :: xs, d + 1, v, hd, hf => ⟨hf.1, Fit.set (m := m) d v (by simpa using hd) hf.2⟩
  | true :: _, [], _, _, _, _, hf => hf.elim
  | false :: _, [], _, _, _, _, hf => hf.elim
  | true :: _, _ :: _, [], _, _, _, hf => hf.elim
  | false :: _, _ :: _, [], _, _, _, hf => hf.elim
theorem Fit.length : ∀ {m : List Bool} {ys xs : List Value}, Fit m ys xs → xs.length = m.length
  | [], [], [], _ => rfl
  | true :: m, _ :: ys, _ :: xs, h => by simp [Fit.length (m := m) (ys := ys) (xs := xs) h]
  | false :: m, _ :: ys, _ :: xs, h => by simp [Fit.length (m := m) (ys := ys) (xs := xs) h.2]
  | [], _ :: _, _, h => h.elim
  | [], [], _ :: _, h => h.elim
  | true :: _, [], _, h => h.elim
  | false :: _, [], _, h => h.elim
  | true :: _, _ :: _, [], h => h.elim
  | false :: _, _ :: _, [], h => h.elim

/-- Later: more blocks, all that was is as it was; of the new blocks some are variables. -/
structure Later (g : List Nat) (w : World) (g' : List Nat) (w' : World) : Prop where
  ext : Below w.heap.size w w'
  sub : ∀ b, b ∈ g → b ∈ g'
  new : ∀ b, b ∈ g' → b ∈ g ∨ w.heap.size ≤ b
theorem Later.same {g : List Nat} {w w' : World} (h : Below w.heap.size w w') : Later g w g w' := ⟨h, fun _ h => h, fun _ h => .inl h⟩
theorem Later.refl (g : List Nat) (w : World) : Later g w g w := .same (Below.refl _ _)
theorem Later.box (g : List Nat) (w : World) (o : Obj) : Later g w (w.heap.size :: g) (w.alloc o) :=
  ⟨ext_alloc (Below.refl _ _) _, fun _ h => List.mem_cons_of_mem _ h, fun b h => by
    rcases List.mem_cons.1 h with rfl | h
    · exact .inr (Nat.le_refl _)
    · exact .inl h⟩
def Mono (φ : Fact) : Prop := ∀ g v w g' w', (∀ b ∈ g, b < w.heap.size) → φ g v w → Later g w g' w' → φ g' v w'
/-- Since the region began. -/
structure Since (W : World) (g : List Nat) (w : World) : Prop where
  ext : Below W.heap.size W w
  ge : ∀ b, b ∈ g → W.heap.size ≤ b ∧ b < w.heap.size
theorem Since.start (W : World) : Since W [] W := ⟨Below.refl _ _, fun _ h => by cases h⟩
theorem Since.later {W w w' : World} {g g' : List Nat} (h : Since W g w) (k : Later g w g' w') (hlt : ∀ b ∈ g', b < w'.heap.size) : Since W g' w' :=
  ⟨ext_trans h.ext k.ext, fun b hb => ⟨by
    rcases k.new b hb with h1 | h1
    · exact (h.ge b h1).1
    · have := h.ext.size; omega, hlt b hb⟩⟩

def anc (ops : Array Oper) : Nat → Nat → Nat → Bool
  | 0, _, _ => false
  | f + 1, i, j => match ops[i]? with
    | none => false
    | some o => o.after.any fun e => Region.binds .any e && (e.on == j || anc ops f e.on j)
theorem anc_listed {ops : Array Oper} {l : Array Bool} (hc : ∀ i o, ops[i]? = some o → l.getD i false = true → ∀ e ∈ o.after, Region.binds .any e = true → l.getD e.on false = true) :
    ∀ (f i j : Nat) (o : Oper), ops[i]? = some o → (∀ e ∈ o.after, Region.binds .any e = true → l.getD e.on false = true) → anc ops f i j = true → l.getD j false = true := by
  intro f
  induction f with
  | zero => intro i j o _ _ h; simp [anc] at h
  | succ f ih =>
    intro i j o ho hd h
    unfold anc at h
    rw [ho] at h
    obtain ⟨e, he, h1⟩ := Array.any_eq_true'.1 h
    rw [Bool.and_eq_true, Bool.or_eq_true] at h1
    obtain ⟨hb, h2⟩ := h1
    have hl := hd e he hb
    rcases h2 with h2 | h2
    · rw [← (beq_iff_eq.1 h2)]; exact hl
    · cases hoe : ops[e.on]? with
      | none =>
        cases f with
        | zero => simp [anc] at h2
        | succ f => simp [anc, hoe] at h2
      | some o' => exact ih e.on j o' hoe (hc e.on o' hoe hl) h2
/-- What is asked of a region: edges go back, no guards, a slot of its own for each operation but the last, which waits for all. -/
def regOk (ops : Array Oper) (mask : List Bool) (ds : List Nat) (nd : List (List Nat)) : Bool :=
  ds.length + 1 == ops.size && decide ds.Nodup && (List.range ops.size).all fun i => match ops[i]? with
    | none => false
    | some o => o.guard.isNone && o.after.all (fun e => !Region.binds .any e || decide (e.on < i)) &&
      (if i + 1 == ops.size then (List.range i).all fun j => anc ops ops.size i j
       else (o.dst == ds[i]?) && mask.getD (ds.getD i 0) false && (nd.getD i []).all fun j => anc ops ops.size i j)
def factAt (Φ : List Fact) (j : Nat) : Fact := Φ.getD j fun _ _ _ => True
/-- Operation i's step. -/
def StepF (P : Program) (W : World) (df : List Deferred) (Φ : List Fact) (ds : List Nat) (o : Oper) (φ : Fact) (nd : List Nat) (xs : List Value) : Prop :=
  ∀ (Q : Exit → Act → World → Prop) (g : List Nat) (w : World), Since W g w → AllOf nd (fun j => factAt Φ j g (xs.getD (ds.getD j 0) undef) w) →
    ∀ K : Act → World → Prop, Shut (∀ v g' w', Later g w g' w' → (∀ b ∈ g', b < w'.heap.size) → φ g' v w' → K ((⟨xs.toArray, df⟩ : Act).put o.dst v) w') → Oper.wp P o ⟨xs.toArray, df⟩ w K Q
/-- The last operation's. -/
def LastF (P : Program) (Q : Exit → Act → World → Prop) (W : World) (df : List Deferred) (Φ : List Fact) (ds : List Nat) (o : Oper) (n : Nat) (xs : List Value) : Prop :=
  ∀ (g : List Nat) (w : World), Since W g w → AllOf (List.range n) (fun j => factAt Φ j g (xs.getD (ds.getD j 0) undef) w) →
    ∀ K : Act → World → Prop, Shut (∀ a' w', Q .normal a' w' → K a' w') → Oper.wp P o ⟨xs.toArray, df⟩ w K Q
inductive StepsF (P : Program) (Q : Exit → Act → World → Prop) (W : World) (df : List Deferred) (Φ : List Fact) (ds : List Nat) (nd : List (List Nat)) (mask : List Bool) (xs0 : List Value) : Nat → List Oper → Prop
  | last {n : Nat} {o : Oper} (h : Alls mask xs0 (LastF P Q W df Φ ds o n)) : StepsF P Q W df Φ ds nd mask xs0 n [o]
  | step {i : Nat} {o : Oper} {rest : List Oper} {φ : Fact} {ni : List Nat} (hp : factAt Φ i = φ) (hn : nd.getD i [] = ni) (h : Alls mask xs0 (StepF P W df Φ ds o φ ni)) (hs : StepsF P Q W df Φ ds nd mask xs0 (i + 1) rest) : StepsF P Q W df Φ ds nd mask xs0 i (o :: rest)
theorem StepsF.at_ {P : Program} {Q : Exit → Act → World → Prop} {W : World} {df : List Deferred} {Φ : List Fact} {ds : List Nat} {nd : List (List Nat)} {mask : List Bool} {xs0 : List Value} {n : Nat} {l : List Oper} (h : StepsF P Q W df Φ ds nd mask xs0 n l) :
    ∀ j o, j + 1 < l.length → l[j]? = some o → Alls mask xs0 (StepF P W df Φ ds o (factAt Φ (n + j)) (nd.getD (n + j) [])) := by
  induction h with
  | last _ => intro j o h1; simp at h1
  | @step i o rest φ ni hp hn h hs ih =>
    intro j o' h1 h2
    cases j with
    | zero =>
      simp only [List.getElem?_cons_zero, Option.some.injEq] at h2
      subst h2 hp hn
      exact h
    | succ j =>
      have := ih j o' (by simpa using h1) (by simpa using h2)
      rwa [show i + 1 + j = i + (j + 1) from by omega] at this
theorem StepsF.end_ {P : Program} {Q : Exit → Act → World → Prop} {W : World} {df : List Deferred} {Φ : List Fact} {ds : List Nat} {nd : List (List Nat)} {mask : List Bool} {xs0 : List Value} {n : Nat} {l : List Oper} (h : StepsF P Q W df Φ ds nd mask xs0 n l) :
    ∀ j o, j + 1 = l.length → l[j]? = some o → Alls mask xs0 (LastF P Q W df Φ ds o (n + j)) := by
  induction h with
  | last h =>
    intro j o h1 h2
    simp only [List.length_singleton] at h1
    obtain rfl : j = 0 := by omega
    simp only [List.getElem?_cons_zero, Option.some.injEq] at h2
    subst h2
    exact h
  | @step i o rest φ ni hp hn h hs ih =>
    intro j o' h1 h2
    cases j with
    | zero => cases hs <;> simp at h1
    | succ j =>
      have := ih j o' (by simpa using h1) (by simpa using h2)
      rwa [show i + 1 + j = i + (j + 1) from by omega] at this
def MonoAll (Φ : List Fact) : Prop := AllOf Φ Mono

theorem getD_set_self (xs : List Value) (d : Nat) (v : Value) (h : d < xs.length) : (xs.set d v).getD d undef = v := by
  simp [List.getD_eq_getElem?_getD, h]
theorem getD_set_other (xs : List Value) (d k : Nat) (v : Value) (h : d ≠ k) : (xs.set d v).getD k undef = xs.getD k undef := by
  simp [List.getD_eq_getElem?_getD, List.getElem?_set_ne h]
theorem put_list (xs : List Value) (df : List Deferred) (d : Nat) (v : Value) : (⟨xs.toArray, df⟩ : Act).put (some d) v = ⟨(xs.set d v).toArray, df⟩ := by
  simp [Act.put]

section
variable {P : Program} {ops : Array Oper} {Q : Exit → Act → World → Prop} {W : World} {df : List Deferred} {Φ : List Fact} {ds : List Nat} {nd : List (List Nat)} {mask : List Bool} {xs0 : List Value}
/-- The relation of the region: what is listed has its fact. -/
structure RegInv (ops : Array Oper) (W : World) (df : List Deferred) (Φ : List Fact) (ds : List Nat) (mask : List Bool) (xs0 : List Value) (l : Array Bool) (xs : List Value) (g : List Nat) (w : World) : Prop where
  size : l.size = ops.size
  fit : Fit mask xs0 xs
  since : Since W g w
  closed : ∀ i o, ops[i]? = some o → l.getD i false = true → ∀ e ∈ o.after, Region.binds .any e = true → l.getD e.on false = true
  facts : ∀ j, j < ds.length → l.getD j false = true → factAt Φ j g (xs.getD (ds.getD j 0) undef) w
  open_ : l.getD ds.length true = false
theorem mono_at (h : MonoAll Φ) (j : Nat) : Mono (factAt Φ j) := by
  unfold factAt
  rw [List.getD_eq_getElem?_getD]
  cases hj : Φ[j]? with
  | none => exact fun _ _ _ _ _ _ _ _ => trivial
  | some φ => exact AllOf.get h φ (List.mem_of_getElem? hj)
theorem getD_set_far {l : Array Bool} {i j : Nat} {d : Bool} (h : i ≠ j) : (l.setIfInBounds i true).getD j d = l.getD j d := by
  rw [Array.getD_eq_getD_getElem?, Array.getD_eq_getD_getElem?, Array.getElem?_setIfInBounds_ne h]
theorem getD_set_l {l : Array Bool} {i j : Nat} {d : Bool} (h : (l.setIfInBounds i true).getD j d = true) : j = i ∨ l.getD j d = true := by
  by_cases e : i = j
  · exact .inl e.symm
  · rw [getD_set_far e] at h
    exact .inr h
theorem set_true {l : Array Bool} {i j : Nat} {d : Bool} (h : l.getD j d = true) : (l.setIfInBounds i true).getD j d = true := by
  by_cases e : i = j
  · subst e
    rcases Nat.lt_or_ge i l.size with h' | h'
    · simp [h']
    · rw [Array.getD_eq_getD_getElem?, Array.getElem?_eq_none (by simpa using h')]
      rwa [Array.getD_eq_getD_getElem?, Array.getElem?_eq_none h'] at h
  · rw [getD_set_far e]; exact h
theorem facts_run (hok : regOk ops mask ds nd = true) (hmono : MonoAll Φ) (hs : StepsF P Q W df Φ ds nd mask xs0 0 ops.toList) :
    ∀ (fuel : Nat) (l : Array Bool) (xs : List Value) (g : List Nat) (w : World), RegInv ops W df Φ ds mask xs0 l xs g w → ((List.range ops.size).filter fun j => !l.getD j true).length ≤ fuel → wpAny P .any ops Q fuel l ⟨xs.toArray, df⟩ w := by
  simp only [regOk, Bool.and_eq_true, beq_iff_eq, decide_eq_true_eq, List.all_eq_true, List.mem_range] at hok
  obtain ⟨⟨hn, hnd⟩, hall⟩ := hok
  have hop : ∀ i, i < ops.size → ∃ o, ops[i]? = some o := fun i hi => ⟨ops[i], Array.getElem?_eq_getElem hi⟩
  have hback : ∀ i o, ops[i]? = some o → ∀ e ∈ o.after, Region.binds .any e = true → e.on < i := by
    intro i o ho e he hb
    have h1 := hall i (Array.getElem?_eq_some_iff.1 ho).1
    rw [ho] at h1
    simp only [Bool.and_eq_true, Array.all_eq_true_iff_forall_mem, Bool.or_eq_true, Bool.not_eq_true', decide_eq_true_eq] at h1
    rcases h1.1.2 e he with h2 | h2
    · rw [hb] at h2; cases h2
    · exact h2
  have hguard : ∀ (i : Nat) (o : Oper), ops[i]? = some o → o.guard = none := by
    intro i o ho
    have h1 := hall i (Array.getElem?_eq_some_iff.1 ho).1
    rw [ho] at h1
    simp only [Bool.and_eq_true] at h1
    exact Option.isNone_iff_eq_none.1 h1.1.1
  -- something may come up while not all is listed
  have hready : ∀ (l : Array Bool) (xs : List Value) (g : List Nat) (w : World), RegInv ops W df Φ ds mask xs0 l xs g w → Region.ready .any ops l ≠ [] := by
    intro l xs g w hI hnil
    have key : ∀ k, k ≤ ops.size → ∀ i, i < k → l.getD i true = true := by
      intro k
      induction k with
      | zero => intro _ i hi; omega
      | succ k ih =>
        intro hk i hi
        by_cases e : i < k
        · exact ih (by omega) i e
        · obtain rfl : i = k := by omega
          cases hl : l.getD i true with
          | true => rfl
          | false =>
            exfalso
            obtain ⟨o, ho⟩ := hop i (by omega)
            have : i ∈ Region.ready .any ops l := mem_ready.2 ⟨hl, o, ho, fun e he hb => by
              have h1 := hback i o ho e he hb
              have h2 := ih (by omega) e.on h1
              have h3 : e.on < l.size := by rw [hI.size]; omega
              simp [h3] at h2 ⊢
              exact h2⟩
            rw [hnil] at this
            cases this
    have h1 := key ops.size (Nat.le_refl _) ds.length (by omega)
    rw [hI.open_] at h1
    cases h1
  intro fuel
  induction fuel with
  | zero =>
    intro l xs g w hI hc
    exfalso
    have h0 := hready l xs g w hI
    apply h0
    rw [List.eq_nil_iff_forall_not_mem]
    intro i hi
    obtain ⟨h1, o, ho, -⟩ := mem_ready.1 hi
    have h2 : i ∈ (List.range ops.size).filter fun j => !l.getD j true := by
      rw [List.mem_filter]
      exact ⟨List.mem_range.2 (Array.getElem?_eq_some_iff.1 ho).1, by rw [h1]; rfl⟩
    have h3 := List.length_pos_of_mem h2
    omega
  | succ fuel ih =>
    intro l xs g w hI hc
    refine ⟨fun h => absurd h (hready l xs g w hI), fun i hi => ?_⟩
    obtain ⟨hun, o, ho, hdeps⟩ := mem_ready.1 hi
    have hil := (Array.getElem?_eq_some_iff.1 ho).1
    have hw : Region.wanted o (yielded ops (⟨xs.toArray, df⟩ : Act).tmps) = true := by simp [Region.wanted, hguard i o ho]
    have hall' := hall i hil
    rw [ho] at hall'
    by_cases e : i + 1 = ops.size
    · obtain rfl : i = ds.length := by omega
      simp only [Bool.and_eq_true, e, if_true, List.all_eq_true, List.mem_range] at hall'
      have hf : ∀ j, j < ds.length → l.getD j false = true := fun j hj => anc_listed hI.closed _ _ _ _ ho hdeps (hall'.2 j hj)
      refine wpOp_step ho fun K hK => ?_
      rw [if_pos hw]
      refine (by have := hs.end_ ds.length o (by simpa using hn) (by simpa using ho); rwa [Nat.zero_add] at this : Alls mask xs0 (LastF P Q W df Φ ds o ds.length)).at_ hI.fit g w hI.since (AllOf.mk fun j hj => hI.facts j (List.mem_range.1 hj) (hf j (List.mem_range.1 hj))) K fun a' w' hQ => hK a' w' ?_
      have hz : Region.ready .any ops (l.setIfInBounds ds.length true) = [] := by
        rw [List.eq_nil_iff_forall_not_mem]
        intro j hj
        obtain ⟨h1, oj, hoj, -⟩ := mem_ready.1 hj
        have hjl := (Array.getElem?_eq_some_iff.1 hoj).1
        by_cases ej : ds.length = j
        · subst ej
          have : ds.length < l.size := by rw [hI.size]; exact hjl
          simp [this] at h1
        · rw [getD_set_far ej] at h1
          have h2 := hf j (by omega)
          have : j < l.size := by rw [hI.size]; exact hjl
          simp [this] at h1 h2
          rw [h1] at h2
          cases h2
      cases fuel with
      | zero => exact ⟨hz, hQ⟩
      | succ fuel => exact ⟨fun _ => hQ, fun j hj => by rw [hz] at hj; cases hj⟩
    · simp only [if_neg e] at hall'
      simp only [Bool.and_eq_true, List.all_eq_true, beq_iff_eq] at hall'
      obtain ⟨-, ⟨hdst, hmk⟩, hnd'⟩ := hall'
      have hid : i < ds.length := by omega
      rw [List.getElem?_eq_getElem hid] at hdst
      have hdi : ds.getD i 0 = ds[i] := by simp [List.getD_eq_getElem?_getD, hid]
      refine wpOp_step ho fun K hK => ?_
      rw [if_pos hw]
      refine (by have := hs.at_ i o (by simpa using (show i + 1 < ops.size by omega)) (by simpa using ho); rwa [Nat.zero_add] at this : Alls mask xs0 (StepF P W df Φ ds o (factAt Φ i) (nd.getD i []))).at_ hI.fit Q g w hI.since (AllOf.mk fun j hj => ?_) K fun v g' w' hla hlt hv => ?_
      · have hjl : l.getD j false = true := anc_listed hI.closed _ _ _ _ ho hdeps (hnd' j hj)
        have hj2 : j < ds.length := by
          rcases Nat.lt_or_ge j ds.length with h | h
          · exact h
          · exfalso
            by_cases ej : j = ds.length
            · subst ej
              have := hI.open_
              have h3 : ds.length < l.size := by rw [hI.size]; omega
              simp [h3] at this hjl
              rw [this] at hjl
              cases hjl
            · have h3 : ¬ j < l.size := by rw [hI.size]; omega
              simp [Array.getElem?_eq_none (Nat.le_of_not_lt h3)] at hjl
        exact hI.facts j hj2 hjl
      · rw [hdst, put_list] at *
        refine hK _ _ (ih _ _ g' w' ?_ ?_)
        · have hil2 : i < l.size := by rw [hI.size]; exact hil
          have hfl := Fit.length hI.fit
          have hdl : ds[i] < xs.length := by
            rw [hfl]
            rcases Nat.lt_or_ge ds[i] mask.length with h | h
            · exact h
            · rw [hdi, List.getD_eq_getElem?_getD, List.getElem?_eq_none h] at hmk
              cases hmk
          refine ⟨by simp [hI.size], Fit.set _ _ (by rw [← hdi]; exact hmk) hI.fit, hI.since.later hla hlt, ?_, ?_, ?_⟩
          · intro i2 o2 ho2 hl2 e2 he2 hb2
            rcases getD_set_l hl2 with rfl | hl2
            · rw [ho] at ho2
              injection ho2 with ho2
              subst ho2
              exact set_true (hdeps e2 he2 hb2)
            · exact set_true (hI.closed i2 o2 ho2 hl2 e2 he2 hb2)
          · intro j hj hlj
            by_cases ej : j = i
            · subst ej
              rw [hdi, getD_set_self _ _ _ hdl]
              exact hv
            · have hj2 : l.getD j false = true := (getD_set_l hlj).resolve_left ej
              have hne : ds[i] ≠ ds.getD j 0 := by
                have hdj : ds.getD j 0 = ds[j] := by simp [List.getD_eq_getElem?_getD, hj]
                rw [hdj]
                intro hh
                exact ej (((List.getElem_inj hnd).1 hh).symm)
              rw [getD_set_other _ _ _ _ hne]
              exact mono_at hmono j g _ w g' w' (fun b hb => (hI.since.ge b hb).2) (hI.facts j hj hj2) hla
          · have : i ≠ ds.length := by omega
            rw [getD_set_far this]
            exact hI.open_
        · have hlt2 : ((List.range ops.size).filter fun j => !(l.setIfInBounds i true).getD j true).length < ((List.range ops.size).filter fun j => !l.getD j true).length := by
            have hil2 : i < l.size := by rw [hI.size]; exact hil
            have hsub : ((List.range ops.size).filter fun j => !(l.setIfInBounds i true).getD j true) = ((List.range ops.size).filter fun j => !l.getD j true).filter fun j => !(j == i) := by
              rw [List.filter_filter]
              refine List.filter_congr fun j _ => ?_
              by_cases ej : i = j
              · subst ej
                simp [hil2]
              · rw [getD_set_far ej]
                have : (j == i) = false := by rw [beq_eq_false_iff_ne]; exact Ne.symm ej
                rw [this]; simp
            rw [hsub]
            refine Nat.lt_of_le_of_ne (List.length_filter_le _ _) fun heq => ?_
            have hmem : i ∈ (List.range ops.size).filter fun j => !l.getD j true := List.mem_filter.2 ⟨List.mem_range.2 hil, by rw [hun]; rfl⟩
            have := (List.length_filter_eq_length_iff.1 heq) i hmem
            simp at this
          omega
/-- The region. -/
theorem wp_facts {id : Nat} {w : World} (mask : List Bool) (ds : List Nat) (nd : List (List Nat)) (Φ : List Fact) (hm : P.follows .mixedOrders = true) (hok : regOk ops mask ds nd = true) (hlen : mask.length = xs0.length) (hmono : MonoAll Φ)
    (hs : StepsF P Q w.drew df Φ ds nd mask xs0 0 ops.toList) : (Code.region id ops true).wp P Q ⟨xs0.toArray, df⟩ w := by
  have hn : ds.length + 1 = ops.size := by
    simp only [regOk, Bool.and_eq_true, beq_iff_eq] at hok
    exact hok.1.1
  refine wp_region_any hm (facts_run hok hmono hs _ _ _ [] _ ⟨by simp, Fit.refl hlen, Since.start _, ?_, ?_, ?_⟩ ?_)
  · intro i o ho h
    have hi := (Array.getElem?_eq_some_iff.1 ho).1
    simp [hi] at h
  · intro j hj h
    have : j < ops.size := by omega
    simp [this] at h
  · have : ds.length < ops.size := by omega
    simp [this]
  · refine Nat.le_trans (List.length_filter_le _ _) ?_
    simp
end

/-! ### The facts -/
theorem mono_nil : MonoAll [] := trivial
theorem mono_cons {φ : Fact} {Φ : List Fact} (h : Mono φ) (hs : MonoAll Φ) : MonoAll (φ :: Φ) := ⟨h, hs⟩
/-- A value that is known. -/
def FEq (c : Value) : Fact := fun _ v _ => v = c
theorem mono_eq {c : Value} : Mono (FEq c) := fun _ _ _ _ _ _ h _ => h
/-- Blocks that a reading may meet beside the region's variables. -/
def Av (B : Nat) (ok : Nat → Prop) (g : List Nat) : Nat → Prop := fun b => (ok b ∧ b < B ∨ B ≤ b) ∧ b ∉ g
theorem Av.later {B : Nat} {ok : Nat → Prop} {g g' : List Nat} {w w' : World} (h : Later g w g' w') (b : Nat) (hb : Av B ok g b) (hl : b < w.heap.size) : Av B ok g' b :=
  ⟨hb.1, fun hg => (h.new b hg).elim hb.2 fun h' => by omega⟩
def FBig (B : Nat) (ok : Nat → Prop) (z : Int) : Fact := fun g v w => Big w (Av B ok g) v z
theorem mono_big {B : Nat} {ok : Nat → Prop} {z : Int} : Mono (FBig B ok z) := fun _ _ _ _ _ _ h hl => (h.weak (Av.later hl)).ext hl.ext
/-- A variable that the region has made. -/
def FBox (B : Nat) (T : TypeId) (cs : List Value) : Fact := fun g v w => ∃ b, v = .pointer (some ⟨b, 0, none⟩) ∧ b ∈ g ∧ B ≤ b ∧ Own w b T cs
theorem mono_box {B : Nat} {T : TypeId} {cs : List Value} : Mono (FBox B T cs) := fun _ _ _ _ _ _ ⟨b, e, hb, hB, ho⟩ hl => ⟨b, e, hl.sub b hb, hB, ho.ext hl.ext⟩
/-- A slice that is read. -/
def FRow {α : Type} (B : Nat) (ok : Nat → Prop) (k : Kd α) (xs : List α) : Fact := fun g v w => ∃ A c, v = .slice A xs.length c ∧ xs.length ≤ c ∧ c ≤ 9223372036854775807 ∧ Row k w (Av B ok g) A xs
theorem mono_row {α : Type} {B : Nat} {ok : Nat → Prop} {k : Kd α} {xs : List α} : Mono (FRow B ok k xs) := fun _ _ _ _ _ _ ⟨A, c, e, h1, h2, h⟩ hl => ⟨A, c, e, h1, h2, (h.weak (Av.later hl)).ext hl.ext⟩
section
variable {W w w' : World} {g : List Nat} {ok : Nat → Prop} {v : Value} {z : Int}
theorem Since.old (h : Since W g w) {b : Nat} (hb : b < W.heap.size) : b ∉ g := fun hg => by have := (h.ge b hg).1; omega
/-- An elder number, in a world of the region. -/
theorem Since.big (h : Since W g w) (hz : Big W ok v z) : Big w (Av W.heap.size ok g) v z := (hz.weak fun b hb hl => ⟨.inl ⟨hb, hl⟩, h.old hl⟩).ext h.ext
theorem Since.row {α : Type} {k : Kd α} {A : Option Addr} {xs : List α} (h : Since W g w) (hz : Row k W ok A xs) : Row k w (Av W.heap.size ok g) A xs := (hz.weak fun b hb hl => ⟨.inl ⟨hb, hl⟩, h.old hl⟩).ext h.ext
/-- What a call has made. -/
theorem Since.made (h : Since W g w) (hz : Big w' (Up (Av W.heap.size ok g) w.heap.size) v z) : Big w' (Av W.heap.size ok g) v z := hz.weak fun b hb _ => by
  rcases hb with hb | hb
  · exact hb
  · exact ⟨.inr (by have := h.ext.size; omega), fun hg => by have := (h.ge b hg).2; omega⟩
theorem Since.madeRow {α : Type} {k : Kd α} {A : Option Addr} {xs : List α} (h : Since W g w) (hz : Row k w' (Up (Av W.heap.size ok g) w.heap.size) A xs) : Row k w' (Av W.heap.size ok g) A xs := hz.weak fun b hb _ => by
  rcases hb with hb | hb
  · exact hb
  · exact ⟨.inr (by have := h.ext.size; omega), fun hg => by have := (h.ge b hg).2; omega⟩
theorem Since.lt (h : Since W g w) (hb : Below w.heap.size w w') : ∀ b ∈ g, b < w'.heap.size := fun b hg => Nat.lt_of_lt_of_le (h.ge b hg).2 hb.size
/-- Behind the region: the elder words. -/
theorem av_up {B C : Nat} {ok : Nat → Prop} {g : List Nat} (hB : B ≤ C) (b : Nat) (h : Av C (Up ok B) g b) : Up ok B b := by
  rcases h.1 with h | h
  · exact h.1
  · exact .inr (by omega)
theorem av_up' {C : Nat} {ok : Nat → Prop} {g : List Nat} (b : Nat) (h : Av C ok g b) : Up ok C b := by
  rcases h.1 with h | h
  · exact .inl h.1
  · exact .inr h
end
/-! ### The steps -/
section
variable {P : Program} {Q : Exit → Act → World → Prop} {W w : World} {df : List Deferred} {g : List Nat} {xs : List Value} {o : Oper} {K : Act → World → Prop} {φ : Fact}
/-- An operation that yields a value that is known. -/
theorem pure_step {c : Value} (hs : Since W g w) (hK : Shut (∀ v g' w', Later g w g' w' → (∀ b ∈ g', b < w'.heap.size) → FEq c g' v w' → K ((⟨xs.toArray, df⟩ : Act).put o.dst v) w'))
    (h : (execOp (⟨xs.toArray, df⟩ : Act).eval o).run P w = .ok (.value c) w) : Oper.wp P o ⟨xs.toArray, df⟩ w K Q := by
  unfold Oper.wp
  rw [h]
  exact hK c g w (Later.refl _ _) (fun b hb => (hs.ge b hb).2) rfl
/-- A variable is made. -/
theorem box_step {T : TypeId} {cs : Array Value} (hs : Since W g w) (hK : Shut (∀ v g' w', Later g w g' w' → (∀ b ∈ g', b < w'.heap.size) → FBox W.heap.size T cs.toList g' v w' → K ((⟨xs.toArray, df⟩ : Act).put o.dst v) w'))
    (h : (execOp (⟨xs.toArray, df⟩ : Act).eval o).run P w = .ok (.value (.pointer (some ⟨w.heap.size, 0, none⟩))) (w.alloc (.cells cs T))) : Oper.wp P o ⟨xs.toArray, df⟩ w K Q := by
  unfold Oper.wp
  rw [h]
  refine hK _ (w.heap.size :: g) _ (Later.box g w _) (fun b hb => ?_) ⟨_, rfl, List.mem_cons_self, hs.ext.size, Own.new w _ _⟩
  rcases List.mem_cons.1 hb with rfl | hb
  · simp
  · have := (hs.ge b hb).2
    simp
    omega
theorem enters' {f : FuncId} {fn : Func} (hf : P.funcs[f]? = some fn) (hname : (fn.name == "runtime.NumGoroutine") = false) (hb : fn.body.isSome = true) (args : Array Value) (w : World) : (callFunc f args).run P w = .ok (.enter f args) w := by
  have h1 : fn.name ≠ "runtime.NumGoroutine" := by simpa using hname
  obtain ⟨c, hc⟩ := Option.isSome_iff_exists.1 hb
  simp [callFunc, hf, h1, hc]
/-- A call of a Go function. -/
theorem call_run {f : FuncId} {fn : Func} {as_ : Array Operand} {ts : Array TypeId} {vals : List Value} {a : Act} (hop : o.op = .call { callee := .value (.func f), args := as_, argTypes := ts }) (hf : P.funcs[f]? = some fn) (hname : (fn.name == "runtime.NumGoroutine") = false) (hb : fn.body.isSome = true) (hargs : as_.toList.map a.eval = vals)
    (h : Calls P f vals.toArray w fun e w' => ∃ v, e = .returned v ∧ K (a.put o.dst v) w') : Oper.wp P o a w K Q := by
  have he := enters' hf hname hb vals.toArray w
  have hm : as_.map a.eval = vals.toArray := by rw [← hargs, ← Array.toList_map]
  have hrun : (execOp a.eval o).run P w = .ok (.enter f vals.toArray) w := by
    unfold execOp
    simp [hop, resolve, Deferred.ofValue, invoke, Act.eval, hm, he]
  unfold Oper.wp
  rw [hrun, Oper.upon_enter]
  refine h.mono fun e w'' hh => ?_
  obtain ⟨v, rfl, hk⟩ := hh
  exact hk
theorem call_step {f : FuncId} {fn : Func} {as_ : Array Operand} {ts : Array TypeId} {vals : List Value} (hs : Since W g w) (hK : Shut (∀ v g' w', Later g w g' w' → (∀ b ∈ g', b < w'.heap.size) → φ g' v w' → K ((⟨xs.toArray, df⟩ : Act).put o.dst v) w'))
    (hop : o.op = .call { callee := .value (.func f), args := as_, argTypes := ts }) (hf : P.funcs[f]? = some fn) (hname : (fn.name == "runtime.NumGoroutine") = false) (hb : fn.body.isSome = true) (hargs : as_.toList.map (⟨xs.toArray, df⟩ : Act).eval = vals)
    (h : Calls P f vals.toArray w fun e w' => ∃ v, e = .returned v ∧ Below w.heap.size w w' ∧ φ g v w') : Oper.wp P o ⟨xs.toArray, df⟩ w K Q := by
  refine call_run hop hf hname hb hargs (h.mono fun e w'' hh => ?_)
  obtain ⟨v, rfl, hk, hv⟩ := hh
  exact ⟨v, rfl, hK v g w'' (Later.same hk) (hs.lt hk) hv⟩
end
end Go.Proofs.Ythibocafjkbeeaa
/-
  lll.lovasz: what it returns. Condition: the numbers are among those that are spoken of.
-/
namespace Go.Proofs.Ythibocafjkbeeaa
open Go.RowKit

theorem ord_ge (x y : Int) : (0 ≤ ord x y) ↔ y ≤ x := by
  unfold ord
  split
  · omega
  · split <;> omega
/-- The condition of lll.lovasz, off the stages. -/
def lovB (ms : List (List (List Int))) (i : Nat) : Bool := decide (3 * (piv ms i * piv ms i) ≤ 4 * (piv ms (i - 1) * piv ms (i + 1) + nth (nth (nth ms (i - 1)) 1) 0 * nth (nth (nth ms (i - 1)) 1) 0))
structure LvOk (ms : List (List (List Int))) (i : Nat) : Prop where
  l : Sm (nth (nth (nth ms (i - 1)) 1) 0)
  d : Sm (piv ms i)
  p : Sm (piv ms (i - 1))
  q : Sm (piv ms (i + 1))
  ll : Sm (nth (nth (nth ms (i - 1)) 1) 0 * nth (nth (nth ms (i - 1)) 1) 0)
  dd : Sm (piv ms i * piv ms i)
  pq : Sm (piv ms (i - 1) * piv ms (i + 1))
  s : Sm (piv ms (i - 1) * piv ms (i + 1) + nth (nth (nth ms (i - 1)) 1) 0 * nth (nth (nth ms (i - 1)) 1) 0)
theorem all_kept4 {w w1 : World} (hb : Below w.heap.size w w1) {p1 p2 p3 p4 : Addr} {u1 u2 u3 u4 : Value} (h : w.cell? p1 = some u1 ∧ w.cell? p2 = some u2 ∧ w.cell? p3 = some u3 ∧ w.cell? p4 = some u4) :
    w1.cell? p1 = some u1 ∧ w1.cell? p2 = some u2 ∧ w1.cell? p3 = some u3 ∧ w1.cell? p4 = some u4 :=
  ⟨kept hb h.1, kept hb h.2.1, kept hb h.2.2.1, kept hb h.2.2.2⟩
/-- Two cells that hold numbers. -/
structure V2 (w W : World) (okk : Nat → Prop) (X Y : Nat) (x d : Int) (A B : Option Addr) (l l' c c' : Nat) : Prop where
  ext : Below w.heap.size w W
  ox : Own W X 59 [.bool (decide (x < 0)), .slice A l c]
  oy : Own W Y 59 [.bool (decide (d < 0)), .slice B l' c']
  bx : Big W okk (.agg #[.bool (decide (x < 0)), .slice A l c]) x
  bd : Big W okk (.agg #[.bool (decide (d < 0)), .slice B l' c']) d
section
variable {w W : World} {okk : Nat → Prop} {X Y : Nat} {x d : Int} {A B : Option Addr} {l l' c c' : Nat}
theorem set_second (hb : Below w.heap.size w W) (hX : Own W X 59 [.bool (decide (x < 0)), .slice A l c]) (hY : Own W Y 59 [.bool false, .slice none 0 0]) (hne : X ≠ Y) (hl : w.heap.size ≤ Y) (bx : Big W okk (.agg #[.bool (decide (x < 0)), .slice A l c]) x) (bd : Big W okk (.agg #[.bool (decide (d < 0)), .slice B l' c']) d) :
    V2 w ((W.setCell ⟨Y, 0, none⟩ (.bool (decide (d < 0)))).setCell ⟨Y, 1, none⟩ (.slice B l' c')) okk X Y x d A B l l' c c' := by
  have c1 := hY.cell 0
  have c2 := set_apart (w := W) (p := ⟨Y, 0, none⟩) (q := ⟨Y, 1, none⟩) (u := .bool (decide (d < 0))) (by simp) (hY.cell 1)
  exact ⟨ext_set (ext_set hb hl _) hl _, (hX.far hne _).far hne _, (hY.set_ 0 _).set_ 1 _, set_big (set_big bx c1 (fun x h => by cases h) _) c2 (fun x h => by cases h) _, set_big (set_big bd c1 (fun x h => by cases h) _) c2 (fun x h => by cases h) _⟩
theorem set_pair (hb : Below w.heap.size w W) (hX : Own W X 59 [.bool false, .slice none 0 0]) (hY : Own W Y 59 [.bool false, .slice none 0 0]) (hne : X ≠ Y) (hlx : w.heap.size ≤ X) (hl : w.heap.size ≤ Y) (bx : Big W okk (.agg #[.bool (decide (x < 0)), .slice A l c]) x) (bd : Big W okk (.agg #[.bool (decide (d < 0)), .slice B l' c']) d) :
    V2 w ((((W.setCell ⟨X, 0, none⟩ (.bool (decide (x < 0)))).setCell ⟨X, 1, none⟩ (.slice A l c)).setCell ⟨Y, 0, none⟩ (.bool (decide (d < 0)))).setCell ⟨Y, 1, none⟩ (.slice B l' c')) okk X Y x d A B l l' c c' := by
  have c1 := hX.cell 0
  have c2 := set_apart (w := W) (p := ⟨X, 0, none⟩) (q := ⟨X, 1, none⟩) (u := .bool (decide (x < 0))) (by simp) (hX.cell 1)
  exact set_second (ext_set (ext_set hb hlx _) hlx _) ((hX.set_ 0 _).set_ 1 _) ((hY.far (Ne.symm hne) _).far (Ne.symm hne) _) hne hl (set_big (set_big bx c1 (fun x h => by cases h) _) c2 (fun x h => by cases h) _) (set_big (set_big bd c1 (fun x h => by cases h) _) c2 (fun x h => by cases h) _)
theorem alloc_pair (hb : Below w.heap.size w W) (bx : Big W okk (.agg #[.bool (decide (x < 0)), .slice A l c]) x) (bd : Big W okk (.agg #[.bool (decide (d < 0)), .slice B l' c']) d) :
    V2 w ((W.alloc (.cells #[.bool (decide (x < 0)), .slice A l c] 59)).alloc (.cells #[.bool (decide (d < 0)), .slice B l' c'] 59)) okk W.heap.size (W.heap.size + 1) x d A B l l' c c' := by
  have h := Own.new (W.alloc (.cells #[.bool (decide (x < 0)), .slice A l c] 59)) 59 #[.bool (decide (d < 0)), .slice B l' c']
  rw [show (W.alloc (.cells #[.bool (decide (x < 0)), .slice A l c] 59)).heap.size = W.heap.size + 1 from by simp] at h
  exact ⟨ext_alloc (ext_alloc hb _) _, (Own.new W _ _).alloc _, h, bx.ext (ext_alloc (ext_alloc (Below.refl _ _) _) _), bd.ext (ext_alloc (ext_alloc (Below.refl _ _) _) _)⟩
theorem V2.flip (h : V2 w W okk X Y x d A B l l' c c') : V2 w W okk Y X d x B A l' l c' c := ⟨h.ext, h.oy, h.ox, h.bd, h.bx⟩
end
theorem own_second {w w3 : World} {T : TypeId} {o : Obj} {cs : Array Value} (hb : Below ((w.drew.alloc o).alloc (.cells cs T)).heap.size ((w.drew.alloc o).alloc (.cells cs T)) w3) : Own w3 (w.heap.size + 1) T cs.toList := by
  have := (Own.new (w.drew.alloc o) T cs).ext hb
  rwa [show (w.drew.alloc o).heap.size = w.heap.size + 1 from by simp] at this
set_option maxRecDepth 100000 in
set_option maxHeartbeats 6000000 in
theorem lovasz_any (ok : Nat → Prop) (A : Option Addr) (n c : Nat) (ms : List (List (List Int))) (k : Nat) (w : World) (hz : Sz ms n) (hk : k + 1 < n) (h16 : n ≤ 16) (hs : LvOk ms (k + 1)) (h : Row Kd.big.slice.slice w ok A ms) :
    Calls Try.prog 37 #[.slice A n c, .int .i64 ((k : Int) + 1)] w fun e w' => e = .returned (.bool (lovB ms (k + 1))) ∧ Below w.heap.size w w' := by
  refine veil fun R HP => ?_
  have HR := Lib.hid h
  have HZ := Lib.hid hz
  obtain ⟨ad, M, e0, rfl, a1, -, -, h1⟩ := h.sub (i := k) (by rw [hz.len]; omega)
  obtain ⟨bd, N, e1, rfl, b1, -, -, h2⟩ := h1.sub (i := 1) (by rw [hz.rows k (by omega)]; omega)
  obtain ⟨cd, E2, p2, q2, rfl, x1, y1, v1⟩ := h2.bigAt (i := 0) (hz.row k 1 (by omega) (by omega))
  rw [show (0 * 2 : Nat) = 0 from rfl, add_zero'] at x1 y1
  rw [add_pos' _ (by omega)] at b1
  rw [hz.rows k (by omega)] at a1
  have hq := hz.row k 1 (by omega) (by omega)
  obtain ⟨s2, hs2⟩ : ∃ s2, s2 = (nth (nth ms k) 1).length := ⟨_, rfl⟩
  rw [← hs2] at b1 hq
  obtain ⟨x, hx⟩ : ∃ x, x = nth (nth (nth ms k) 1) 0 := ⟨_, rfl⟩
  rw [← hx] at x1 v1
  have HX := Lib.hid hx
  have V1 := Lib.hid v1
  have HS := Lib.hid hs
  have CC := Lib.hid (And.intro a1 (And.intro b1 (And.intro x1 y1)))
  have i1 : (0 : Int) ≤ (k : Int) := by omega
  have i2 : (k : Int) < (n : Int) := by omega
  have i3 : k < n := by omega
  have g1 : IntKind.i64.wrap (k : Int) = (k : Int) := by rw [IntKind.wrap_i64]; omega
  have i4 : 1 < n - k := by omega
  have i6 : (1 : Int) < ((n - k : Nat) : Int) := by omega
  have PT := fun W hW => pivot_any ok (some ad) n c ms (k + 1) W HZ.out.len.symm (by omega) HZ.out.piv (HR.out.ext (w' := W) hW)
  rw [show ((k + 1 : Nat) : Int) = (k : Int) + 1 from by omega] at PT
  have HPT := Lib.hid PT
  obtain ⟨d, hd⟩ : ∃ d, d = piv ms (k + 1) := ⟨_, rfl⟩
  rw [← hd] at HPT
  have HD := Lib.hid hd
  clear h hz h1 h2 v1 hs hx hs2 PT a1 b1 x1 y1 hd
  go_enter Try.func37, Try.ntmps37
  go_upto_region 1 with fail
  go_cut [5, 6] (fun x5 x6 wy => ∃ (X Y : Nat) (A5 : Option Addr) (l5 d5 : Nat), x5 = .pointer (some ⟨X, 0, none⟩) ∧ x6 = .pointer (some ⟨Y, 0, none⟩) ∧ Hid (V2 w wy (Up ok w.heap.size) X Y x d E2 A5 p2 l5 q2 d5))
  case first =>
    go_region_held3 (fun w' => w'.cell? (ad.add k) = some (.slice (some bd) (n - k) e0) ∧ w'.cell? ⟨bd.block, bd.off + 1, none⟩ = some (.slice (some cd) s2 e1) ∧ w'.cell? cd = some (.bool (decide (x < 0))) ∧ w'.cell? ⟨cd.block, cd.off + 1, none⟩ = some (.slice E2 p2 q2))
      ((refine all_kept4 (w := w) ?_ CC.out; (repeat (first | with_reducible exact B3.out | with_reducible exact Below.refl _ _ | with_reducible refine ext_drew ?_ | with_reducible refine ext_alloc ?_ _ | with_reducible refine ext_set ?_ ?_ _)); all_goals (have z9 := B3.out.size; (try simp only); omega)))
      (first
        | (go_at_call 34; refine (HPT.out _ (by first | exact ext_drew (Below.refl _ _) | exact ext_alloc (ext_drew (Below.refl _ _)) _ | exact ext_alloc (ext_alloc (ext_drew (Below.refl _ _)) _) _)).mono ?_; rintro e w3 ⟨v, hv, rfl, hb⟩; obtain ⟨A3, l3, d3, rfl⟩ := hv.lit; have B3 := Lib.hid (ext_trans (show Below w.heap.size w _ by first | exact ext_drew (Below.refl _ _) | exact ext_alloc (ext_drew (Below.refl _ _)) _ | exact ext_alloc (ext_alloc (ext_drew (Below.refl _ _)) _) _) hb); have Y3 := Lib.hid (hv.upTo (C := w.heap.size) (by first | exact Nat.le_refl _ | (simp; done) | (simp; omega))); (first | have N1 := Lib.hid (show Own w3 w.heap.size _ _ from ((Own.new w.drew _ _).alloc _).ext hb) | have N1 := Lib.hid (show Own w3 w.heap.size _ _ from (Own.new w.drew _ _).ext hb) | skip); (first | have N2 := Lib.hid (show Own w3 (w.heap.size + 1) _ _ from own_second hb) | skip); (first | (have r0 := N1.out.cell 0; have r1 := N1.out.cell 1; have f0 := N1.out.free 0; have f1 := N1.out.free 1; have N1a := N1.out.alloc (.cells #[.bool false, .slice none 0 0] 59); have r2 := N1a.cell 0; have r3 := N1a.cell 1; have f2 := N1a.free 0; have f3 := N1a.free 1; have N1b := N1.out.alloc (.cells #[.bool (decide (x < 0)), .slice E2 p2 q2] 59); have r4 := N1b.cell 0; have r5 := N1b.cell 1; have f4 := N1b.free 0; have f5 := N1b.free 1; clear N1b; have z1 : w.heap.size ≠ w3.heap.size := Nat.ne_of_lt N1.out.lt; have z2 := z1.symm; clear N1a) | skip); (first | (have s0 := N2.out.cell 0; have s1 := N2.out.cell 1; have h0 := N2.out.free 0; have h1 := N2.out.free 1) | skip); clear hb hv))
    all_goals (try go_wp2_with fail)
    all_goals (try go_meet)
    all_goals (
      have b3 := B3.out.size
      have VX := (V1.out.weak (ok' := Up ok w.heap.size) fun b h _ => .inl h).ext B3.out)
    all_goals refine ⟨_, _, A3, l3, d3, rfl, rfl, Lib.hid ?_⟩
    all_goals (first
      | with_reducible exact alloc_pair B3.out VX Y3.out
      | with_reducible exact (alloc_pair B3.out Y3.out VX).flip
      | with_reducible exact set_pair (ext_alloc B3.out _) (N1.out.alloc _) (Own.new w3 _ _) (by omega) (by omega) (by omega) (VX.ext (ext_alloc (Below.refl _ _) _)) (Y3.out.ext (ext_alloc (Below.refl _ _) _))
      | with_reducible exact set_pair B3.out N1.out N2.out (by omega) (by omega) (by omega) VX Y3.out
      | with_reducible exact set_pair B3.out N2.out N1.out (by omega) (by omega) (by omega) VX Y3.out
      | with_reducible exact set_second (ext_alloc B3.out _) (Own.new w3 _ _) (N1.out.alloc _) (by omega) (by omega) (VX.ext (ext_alloc (Below.refl _ _) _)) (Y3.out.ext (ext_alloc (Below.refl _ _) _)))
  case rest =>
    obtain ⟨X, Y, A5, l5, d5, rfl, rfl, HC⟩ := hcut
    obtain ⟨wo, rfl⟩ : ∃ wo : World, wo = wc := ⟨_, rfl⟩
    have hxy := HC.out.ox
    clear hxy
    have c1 : wo.cell? ⟨X, 0, none⟩ = some (.bool (decide (x < 0))) := HC.out.ox.cell 0
    have c2 : wo.cell? ⟨X, 1, none⟩ = some (.slice E2 p2 q2) := HC.out.ox.cell 1
    have C2 := Lib.hid (And.intro c1 c2)
    clear c1 c2 CC
    have PP := Lib.hid (fun (i : Nat) (hi : i ≤ n) (W : World) (hW : Below w.heap.size w W) => pivot_any ok (some ad) n c ms i W HZ.out.len.symm hi HZ.out.piv (HR.out.ext (w' := W) hW))
    have g2 : IntKind.i64.wrap ((k : Int) + 1 + 1) = (k : Int) + 1 + 1 := by rw [IntKind.wrap_i64]; omega
    have g3 : IntKind.i64.wrap ((k : Int) + 2) = (k : Int) + 2 := by rw [IntKind.wrap_i64]; omega
    go_upto_region 2 with fail
    go_cut [7] (fun x7 wy => ∃ (Z : Nat) (A8 : Option Addr) (l8 d8 : Nat), x7 = .pointer (some ⟨Z, 0, none⟩) ∧ Hid (Below wo.heap.size wo wy ∧ Own wy Z 59 [.bool (decide (piv ms k * piv ms (k + 2) + x * x < 0)), .slice A8 l8 d8] ∧ Big wy (Up ok w.heap.size) (.agg #[.bool (decide (piv ms k * piv ms (k + 2) + x * x < 0)), .slice A8 l8 d8]) (piv ms k * piv ms (k + 2) + x * x)))
    case first =>
      have HRC := Lib.hid (show Row Kd.big.slice.slice wo.drew (Up ok w.heap.size) (some ad) ms from ((HR.out.ext HC.out.ext).weak fun b h _ => .inl h).ext (ext_drew (Below.refl _ _)))
      have XB := Lib.hid (show Big wo.drew (Up ok w.heap.size) (.agg #[.bool (decide (x < 0)), .slice E2 p2 q2]) x from HC.out.bx.ext (ext_drew (Below.refl _ _)))
      have HS1 := Lib.hid HS.out
      have SX := Lib.hid (show Sm x ∧ Sm (x * x) from by rw [HX.out]; exact ⟨HS.out.l, HS.out.ll⟩)
      -- two begin
      refine wp_facts [false, false, false, false, false, false, false, true, false, false, false, false, false, false, false, false, false, false, false, false, true, true, true, true, true, true, true, true, true, true, true, true, true, false, false, false, false, false, false, false, false] [20, 21, 22, 23, 24, 25, 26, 27, 28, 29, 30, 31, 32, 7] [[], [], [1], [0, 2], [], [], [5], [4, 6], [3, 7], [], [], [9, 10], [8, 11], []] [FEq (.slice (some ad) n c), FEq (.int .i64 ((k : Int) + 1)), FEq (.int .i64 (k : Int)), FBig (wo.drew.heap.size) ((Up ok w.heap.size)) (piv ms k), FEq (.slice (some ad) n c), FEq (.int .i64 ((k : Int) + 1)), FEq (.int .i64 ((k + 2 : Nat) : Int)), FBig (wo.drew.heap.size) ((Up ok w.heap.size)) (piv ms (k + 2)), FBig (wo.drew.heap.size) ((Up ok w.heap.size)) (piv ms k * piv ms (k + 2)), FEq (.agg #[.bool (decide (x < 0)), .slice E2 p2 q2]), FEq (.agg #[.bool (decide (x < 0)), .slice E2 p2 q2]), FBig (wo.drew.heap.size) ((Up ok w.heap.size)) (x * x), FBig (wo.drew.heap.size) ((Up ok w.heap.size)) (piv ms k * piv ms (k + 2) + x * x), FBox (wo.drew.heap.size) 59 [.bool false, .slice none 0 0]] (by kernel_rfl) (by kernel_rfl) (by rfl) ?_ ?_
      · exact mono_cons mono_eq (mono_cons mono_eq (mono_cons mono_eq (mono_cons mono_big (mono_cons mono_eq (mono_cons mono_eq (mono_cons mono_eq (mono_cons mono_big (mono_cons mono_big (mono_cons mono_eq (mono_cons mono_eq (mono_cons mono_big (mono_cons mono_big (mono_cons mono_box (mono_nil))))))))))))))
      · refine StepsF.step rfl rfl ?_ (StepsF.step rfl rfl ?_ (StepsF.step rfl rfl ?_ (StepsF.step rfl rfl ?_ (StepsF.step rfl rfl ?_ (StepsF.step rfl rfl ?_ (StepsF.step rfl rfl ?_ (StepsF.step rfl rfl ?_ (StepsF.step rfl rfl ?_ (StepsF.step rfl rfl ?_ (StepsF.step rfl rfl ?_ (StepsF.step rfl rfl ?_ (StepsF.step rfl rfl ?_ (StepsF.step rfl rfl ?_ (StepsF.last ?_))))))))))))))
        · refine fun t7 t20 t21 t22 t23 t24 t25 t26 t27 t28 t29 t30 t31 t32 Q' g w' hs hd K hK => ?_
          exact pure_step hs hK (by go_simp)
        · refine fun t7 t20 t21 t22 t23 t24 t25 t26 t27 t28 t29 t30 t31 t32 Q' g w' hs hd K hK => ?_
          exact pure_step hs hK (by go_simp)
        · refine fun t7 t20 t21 t22 t23 t24 t25 t26 t27 t28 t29 t30 t31 t32 Q' g w' hs hd K hK => ?_
          obtain ⟨h1, -⟩ := hd
          obtain rfl : t21 = .int .i64 ((k : Int) + 1) := h1
          exact pure_step hs hK (by go_simp)
        · refine fun t7 t20 t21 t22 t23 t24 t25 t26 t27 t28 t29 t30 t31 t32 Q' g w' hs hd K hK => ?_
          obtain ⟨h0, h2, -⟩ := hd
          obtain rfl : t20 = .slice (some ad) n c := h0
          obtain rfl : t22 = .int .i64 (k : Int) := h2
          refine call_step (vals := [.slice (some ad) n c, .int .i64 (k : Int)]) hs hK rfl Try.func34 rfl rfl rfl ((@pivot_any (Av (wo.drew.heap.size) ((Up ok w.heap.size)) g) (some ad) n c ms (k) w' HZ.out.len.symm (by omega) HZ.out.piv (hs.row HRC.out)).mono ?_)
          rintro e w3 ⟨v, hv, rfl, hb⟩
          exact ⟨v, rfl, hb, hs.made hv⟩
        · refine fun t7 t20 t21 t22 t23 t24 t25 t26 t27 t28 t29 t30 t31 t32 Q' g w' hs hd K hK => ?_
          exact pure_step hs hK (by go_simp)
        · refine fun t7 t20 t21 t22 t23 t24 t25 t26 t27 t28 t29 t30 t31 t32 Q' g w' hs hd K hK => ?_
          exact pure_step hs hK (by go_simp)
        · refine fun t7 t20 t21 t22 t23 t24 t25 t26 t27 t28 t29 t30 t31 t32 Q' g w' hs hd K hK => ?_
          obtain ⟨h5, -⟩ := hd
          obtain rfl : t25 = .int .i64 ((k : Int) + 1) := h5
          have e : ((k + 2 : Nat) : Int) = (k : Int) + 1 + 1 := by omega
          exact pure_step hs hK (by rw [e]; go_simp)
        · refine fun t7 t20 t21 t22 t23 t24 t25 t26 t27 t28 t29 t30 t31 t32 Q' g w' hs hd K hK => ?_
          obtain ⟨h4, h6, -⟩ := hd
          obtain rfl : t24 = .slice (some ad) n c := h4
          obtain rfl : t26 = .int .i64 ((k + 2 : Nat) : Int) := h6
          refine call_step (vals := [.slice (some ad) n c, .int .i64 ((k + 2 : Nat) : Int)]) hs hK rfl Try.func34 rfl rfl rfl ((@pivot_any (Av (wo.drew.heap.size) ((Up ok w.heap.size)) g) (some ad) n c ms (k + 2) w' HZ.out.len.symm (by omega) HZ.out.piv (hs.row HRC.out)).mono ?_)
          rintro e w3 ⟨v, hv, rfl, hb⟩
          exact ⟨v, rfl, hb, hs.made hv⟩
        · refine fun t7 t20 t21 t22 t23 t24 t25 t26 t27 t28 t29 t30 t31 t32 Q' g w' hs hd K hK => ?_
          obtain ⟨h3, h7, -⟩ := hd
          have b23 : Big w' (Av (wo.drew.heap.size) ((Up ok w.heap.size)) g) t23 (piv ms k) := h3
          clear h3
          have b27 : Big w' (Av (wo.drew.heap.size) ((Up ok w.heap.size)) g) t27 (piv ms (k + 2)) := h7
          clear h7
          refine call_step (vals := [t23, t27]) hs hK rfl Try.func40 rfl rfl rfl ((Mul_big _ _ _ _ _ _ b23 b27 HS1.out.p HS1.out.q).mono ?_)
          rintro e w3 ⟨v, hv, rfl, hb⟩
          exact ⟨v, rfl, hb, hs.made hv⟩
        · refine fun t7 t20 t21 t22 t23 t24 t25 t26 t27 t28 t29 t30 t31 t32 Q' g w' hs hd K hK => ?_
          have l1 := kept hs.ext (show wo.drew.cell? _ = _ from C2.out.1)
          have l2 := kept hs.ext (show wo.drew.cell? _ = _ from C2.out.2)
          exact pure_step hs hK (by go_simp)
        · refine fun t7 t20 t21 t22 t23 t24 t25 t26 t27 t28 t29 t30 t31 t32 Q' g w' hs hd K hK => ?_
          have l1 := kept hs.ext (show wo.drew.cell? _ = _ from C2.out.1)
          have l2 := kept hs.ext (show wo.drew.cell? _ = _ from C2.out.2)
          exact pure_step hs hK (by go_simp)
        · refine fun t7 t20 t21 t22 t23 t24 t25 t26 t27 t28 t29 t30 t31 t32 Q' g w' hs hd K hK => ?_
          obtain ⟨h9, h10, -⟩ := hd
          obtain rfl : t29 = .agg #[.bool (decide (x < 0)), .slice E2 p2 q2] := h9
          obtain rfl : t30 = .agg #[.bool (decide (x < 0)), .slice E2 p2 q2] := h10
          refine call_step (vals := [.agg #[.bool (decide (x < 0)), .slice E2 p2 q2], .agg #[.bool (decide (x < 0)), .slice E2 p2 q2]]) hs hK rfl Try.func40 rfl rfl rfl ((Mul_big _ _ _ _ _ _ (hs.big XB.out) (hs.big XB.out) SX.out.1 SX.out.1).mono ?_)
          rintro e w3 ⟨v, hv, rfl, hb⟩
          exact ⟨v, rfl, hb, hs.made hv⟩
        · refine fun t7 t20 t21 t22 t23 t24 t25 t26 t27 t28 t29 t30 t31 t32 Q' g w' hs hd K hK => ?_
          obtain ⟨h8, h11, -⟩ := hd
          have b28 : Big w' (Av (wo.drew.heap.size) ((Up ok w.heap.size)) g) t28 (piv ms k * piv ms (k + 2)) := h8
          clear h8
          have b31 : Big w' (Av (wo.drew.heap.size) ((Up ok w.heap.size)) g) t31 (x * x) := h11
          clear h11
          refine call_step (vals := [t28, t31]) hs hK rfl Try.func39 rfl rfl rfl ((Add_big _ _ _ _ _ _ b28 b31 HS1.out.pq SX.out.2).mono ?_)
          rintro e w3 ⟨v, hv, rfl, hb⟩
          exact ⟨v, rfl, hb, hs.made hv⟩
        · refine fun t7 t20 t21 t22 t23 t24 t25 t26 t27 t28 t29 t30 t31 t32 Q' g w' hs hd K hK => ?_
          exact box_step (cs := #[.bool false, .slice none 0 0]) hs hK (by go_simp)
        · refine fun t7 t20 t21 t22 t23 t24 t25 t26 t27 t28 t29 t30 t31 t32 g w' hs hd K hK => ?_
          obtain ⟨h0, h1, h2, h3, h4, h5, h6, h7, h8, h9, h10, h11, h12, h13, -⟩ := hd
          obtain rfl : t20 = .slice (some ad) n c := h0
          obtain rfl : t21 = .int .i64 ((k : Int) + 1) := h1
          obtain rfl : t22 = .int .i64 (k : Int) := h2
          have b23 : Big w' (Av (wo.drew.heap.size) ((Up ok w.heap.size)) g) t23 (piv ms k) := h3
          clear h3
          obtain rfl : t24 = .slice (some ad) n c := h4
          obtain rfl : t25 = .int .i64 ((k : Int) + 1) := h5
          obtain rfl : t26 = .int .i64 ((k + 2 : Nat) : Int) := h6
          have b27 : Big w' (Av (wo.drew.heap.size) ((Up ok w.heap.size)) g) t27 (piv ms (k + 2)) := h7
          clear h7
          have b28 : Big w' (Av (wo.drew.heap.size) ((Up ok w.heap.size)) g) t28 (piv ms k * piv ms (k + 2)) := h8
          clear h8
          obtain rfl : t29 = .agg #[.bool (decide (x < 0)), .slice E2 p2 q2] := h9
          obtain rfl : t30 = .agg #[.bool (decide (x < 0)), .slice E2 p2 q2] := h10
          have b31 : Big w' (Av (wo.drew.heap.size) ((Up ok w.heap.size)) g) t31 (x * x) := h11
          clear h11
          have b32 : Big w' (Av (wo.drew.heap.size) ((Up ok w.heap.size)) g) t32 (piv ms k * piv ms (k + 2) + x * x) := h12
          clear h12
          obtain ⟨x7, rfl, y7, z7, o7⟩ := h13
          obtain ⟨A8, l8, d8, rfl⟩ := b32.lit
          have r0 := o7.cell 0
          have r1 := o7.cell 1
          have f0 := o7.free 0
          have f1 := o7.free 1
          have BW := Lib.hid (b32.weak (ok' := Up ok w.heap.size) fun b h _ => av_up HC.out.ext.size b h)
          have OW := Lib.hid o7
          have SW := Lib.hid hs.ext
          clear b23 b27 b28 b31 b32 o7 hs
          go_simp
          refine hK _ _ ?_
          try go_wp2_with fail
          try go_meet
          refine ⟨x7, A8, l8, d8, rfl, Lib.hid ⟨?_, (OW.out.set_ 0 _).set_ 1 _, set_big (set_big BW.out r0 (fun x h => by cases h) _) (set_apart (by simp) r1) (fun x h => by cases h) _⟩⟩
          exact ext_set (ext_set (ext_trans (show Below wo.heap.size wo wo.drew from ext_drew (Below.refl _ _)) SW.out) (show wo.heap.size ≤ x7 from z7) _) (show wo.heap.size ≤ x7 from z7) _
      -- two end
    case rest =>
      obtain ⟨Z, A8, l8, d8, rfl, HE⟩ := hcut
      have CZ := Lib.hid (And.intro (HE.out.2.1.cell 0) (HE.out.2.1.cell 1))
      have OY := Lib.hid (HC.out.oy.ext HE.out.1)
      have CY := Lib.hid (And.intro (OY.out.cell 0) (OY.out.cell 1))
      have ZB := Lib.hid (show Big wc.drew (Up ok w.heap.size) _ _ from HE.out.2.2.ext (ext_drew (Below.refl _ _)))
      have DB := Lib.hid (show Big wc.drew (Up ok w.heap.size) _ _ from (HC.out.bd.ext HE.out.1).ext (ext_drew (Below.refl _ _)))
      have SS := Lib.hid (show Sm (piv ms k * piv ms (k + 2) + x * x) ∧ Sm d ∧ Sm (d * d) from by rw [HX.out, HD.out]; exact ⟨HS.out.s, HS.out.d, HS.out.dd⟩)
      have LB := Lib.hid (show decide (0 ≤ ord (4 * (piv ms k * piv ms (k + 2) + x * x)) (3 * (d * d))) = lovB ms (k + 1) from by rw [HX.out, HD.out]; exact decide_eq_decide.2 (ord_ge _ _))
      go_upto_region 3 with fail
      -- three begin
      refine wp_facts [false, false, false, false, false, false, false, false, false, false, false, false, false, false, false, false, false, false, false, false, false, false, false, false, false, false, false, false, false, false, false, false, false, true, true, true, true, true, true, true, true] [33, 34, 35, 36, 37, 38, 39, 40] [[], [0], [], [], [2, 3], [4], [1, 5], [6]] [FEq (.agg #[.bool (decide (piv ms k * piv ms (k + 2) + x * x < 0)), .slice A8 l8 d8]), FBig (wc.drew.heap.size) ((Up ok w.heap.size)) (4 * (piv ms k * piv ms (k + 2) + x * x)), FEq (.agg #[.bool (decide (d < 0)), .slice A5 l5 d5]), FEq (.agg #[.bool (decide (d < 0)), .slice A5 l5 d5]), FBig (wc.drew.heap.size) ((Up ok w.heap.size)) (d * d), FBig (wc.drew.heap.size) ((Up ok w.heap.size)) (3 * (d * d)), FEq (.int .i64 (ord (4 * (piv ms k * piv ms (k + 2) + x * x)) (3 * (d * d)))), FEq (.bool (decide (0 ≤ ord (4 * (piv ms k * piv ms (k + 2) + x * x)) (3 * (d * d)))))] (by kernel_rfl) (by kernel_rfl) (by rfl) ?_ ?_
      · exact mono_cons mono_eq (mono_cons mono_big (mono_cons mono_eq (mono_cons mono_eq (mono_cons mono_big (mono_cons mono_big (mono_cons mono_eq (mono_cons mono_eq (mono_nil))))))))
      · refine StepsF.step rfl rfl ?_ (StepsF.step rfl rfl ?_ (StepsF.step rfl rfl ?_ (StepsF.step rfl rfl ?_ (StepsF.step rfl rfl ?_ (StepsF.step rfl rfl ?_ (StepsF.step rfl rfl ?_ (StepsF.step rfl rfl ?_ (StepsF.last ?_))))))))
        · refine fun t33 t34 t35 t36 t37 t38 t39 t40 Q' g w' hs hd K hK => ?_
          have l1 := kept hs.ext (show wc.drew.cell? _ = _ from CZ.out.1)
          have l2 := kept hs.ext (show wc.drew.cell? _ = _ from CZ.out.2)
          exact pure_step hs hK (by go_simp)
        · refine fun t33 t34 t35 t36 t37 t38 t39 t40 Q' g w' hs hd K hK => ?_
          obtain ⟨h0, -⟩ := hd
          obtain rfl : t33 = .agg #[.bool (decide (piv ms k * piv ms (k + 2) + x * x < 0)), .slice A8 l8 d8] := h0
          refine call_step (vals := [(.int .i64 4), .agg #[.bool (decide (piv ms k * piv ms (k + 2) + x * x < 0)), .slice A8 l8 d8]]) hs hK rfl Try.func58 rfl rfl rfl ((scale_any _ 4 (piv ms k * piv ms (k + 2) + x * x) A8 l8 d8 w' (by omega) (by omega) SS.out.1 (hs.big ZB.out)).mono ?_)
          rintro e w3 ⟨v, hv, rfl, hb⟩
          exact ⟨v, rfl, hb, hs.made hv⟩
        · refine fun t33 t34 t35 t36 t37 t38 t39 t40 Q' g w' hs hd K hK => ?_
          have l1 := kept hs.ext (show wc.drew.cell? _ = _ from CY.out.1)
          have l2 := kept hs.ext (show wc.drew.cell? _ = _ from CY.out.2)
          exact pure_step hs hK (by go_simp)
        · refine fun t33 t34 t35 t36 t37 t38 t39 t40 Q' g w' hs hd K hK => ?_
          have l1 := kept hs.ext (show wc.drew.cell? _ = _ from CY.out.1)
          have l2 := kept hs.ext (show wc.drew.cell? _ = _ from CY.out.2)
          exact pure_step hs hK (by go_simp)
        · refine fun t33 t34 t35 t36 t37 t38 t39 t40 Q' g w' hs hd K hK => ?_
          obtain ⟨h2, h3, -⟩ := hd
          obtain rfl : t35 = .agg #[.bool (decide (d < 0)), .slice A5 l5 d5] := h2
          obtain rfl : t36 = .agg #[.bool (decide (d < 0)), .slice A5 l5 d5] := h3
          refine call_step (vals := [.agg #[.bool (decide (d < 0)), .slice A5 l5 d5], .agg #[.bool (decide (d < 0)), .slice A5 l5 d5]]) hs hK rfl Try.func40 rfl rfl rfl ((Mul_big _ _ _ _ _ _ (hs.big DB.out) (hs.big DB.out) SS.out.2.1 SS.out.2.1).mono ?_)
          rintro e w3 ⟨v, hv, rfl, hb⟩
          exact ⟨v, rfl, hb, hs.made hv⟩
        · refine fun t33 t34 t35 t36 t37 t38 t39 t40 Q' g w' hs hd K hK => ?_
          obtain ⟨h4, -⟩ := hd
          have b37 : Big w' (Av (wc.drew.heap.size) ((Up ok w.heap.size)) g) t37 (d * d) := h4
          clear h4
          obtain ⟨A37, l37, d37, rfl⟩ := b37.lit
          refine call_step (vals := [(.int .i64 3), .agg #[.bool (decide (d * d < 0)), .slice A37 l37 d37]]) hs hK rfl Try.func58 rfl rfl rfl ((scale_any _ 3 (d * d) A37 l37 d37 w' (by omega) (by omega) SS.out.2.2 b37).mono ?_)
          rintro e w3 ⟨v, hv, rfl, hb⟩
          exact ⟨v, rfl, hb, hs.made hv⟩
        · refine fun t33 t34 t35 t36 t37 t38 t39 t40 Q' g w' hs hd K hK => ?_
          obtain ⟨h1, h5, -⟩ := hd
          have b34 : Big w' (Av (wc.drew.heap.size) ((Up ok w.heap.size)) g) t34 (4 * (piv ms k * piv ms (k + 2) + x * x)) := h1
          clear h1
          have b38 : Big w' (Av (wc.drew.heap.size) ((Up ok w.heap.size)) g) t38 (3 * (d * d)) := h5
          clear h5
          refine call_step (vals := [t34, t38]) hs hK rfl Try.func33 rfl rfl rfl ((Cmp_big _ _ _ _ _ _ b34 b38).mono ?_)
          rintro e w3 ⟨rfl, hb⟩
          exact ⟨_, rfl, hb, rfl⟩
        · refine fun t33 t34 t35 t36 t37 t38 t39 t40 Q' g w' hs hd K hK => ?_
          obtain ⟨h6, -⟩ := hd
          obtain rfl : t39 = .int .i64 (ord (4 * (piv ms k * piv ms (k + 2) + x * x)) (3 * (d * d))) := h6
          exact pure_step hs hK (by generalize ord (4 * (piv ms k * piv ms (k + 2) + x * x)) (3 * (d * d)) = oo; go_simp)
        · refine fun t33 t34 t35 t36 t37 t38 t39 t40 g w' hs hd K hK => ?_
          obtain ⟨h0, h1, h2, h3, h4, h5, h6, h7, -⟩ := hd
          obtain rfl : t33 = .agg #[.bool (decide (piv ms k * piv ms (k + 2) + x * x < 0)), .slice A8 l8 d8] := h0
          have b34 : Big w' (Av (wc.drew.heap.size) ((Up ok w.heap.size)) g) t34 (4 * (piv ms k * piv ms (k + 2) + x * x)) := h1
          clear h1
          obtain rfl : t35 = .agg #[.bool (decide (d < 0)), .slice A5 l5 d5] := h2
          obtain rfl : t36 = .agg #[.bool (decide (d < 0)), .slice A5 l5 d5] := h3
          have b37 : Big w' (Av (wc.drew.heap.size) ((Up ok w.heap.size)) g) t37 (d * d) := h4
          clear h4
          have b38 : Big w' (Av (wc.drew.heap.size) ((Up ok w.heap.size)) g) t38 (3 * (d * d)) := h5
          clear h5
          obtain rfl : t39 = .int .i64 (ord (4 * (piv ms k * piv ms (k + 2) + x * x)) (3 * (d * d))) := h6
          obtain rfl : t40 = .bool (decide (0 ≤ ord (4 * (piv ms k * piv ms (k + 2) + x * x)) (3 * (d * d)))) := h7
          have SW := Lib.hid hs.ext
          clear b34 b37 b38 hs
          go_simp
          refine hK _ _ ?_
          go_wp2
          refine HP.out _ _ ⟨?_, ext_trans (ext_trans HC.out.ext HE.out.1) (ext_trans (show Below wc.heap.size wc wc.drew from ext_drew (Below.refl _ _)) SW.out)⟩
          rw [← LB.out]
          rfl
      -- three end
end Go.Proofs.Ythibocafjkbeeaa
