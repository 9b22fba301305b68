/-
  integer.shortDivide, divide (by one limb, or a lesser by a greater number) and DivMod: what they return. Condition: the integers have fewer limbs than a given bound.
-/
import Derived.Test.YthibocafjkbeeaaPart05
import Derived.Laws.BitsAllLaws
set_option linter.unusedVariables false
set_option linter.unusedSimpArgs false
namespace Go.Proofs.Ythibocafjkbeeaa
open Go.RowKit

theorem or_limb (x y : Nat) (hx : x < 4294967296) (hy : y < 4294967296) : bits .or .u64 ((x : Int) * 4294967296) (y : Int) = ((x * 4294967296 + y : Nat) : Int) := by
  rw [show ((x : Int) * 4294967296) = ((x * 4294967296 : Nat) : Int) from by omega, u64_or_nat _ _ (by omega) (by omega)]
  congr 1
  have := Nat.shiftLeft_add_eq_or_of_lt (i := 32) (b := y) (by omega) x
  rw [Nat.shiftLeft_eq] at this
  simpa using this.symm
theorem div_round (b V r a q r' k : Nat) (h : b * q + r' = r * 4294967296 + a) : a + 4294967296 * (b * V + r) = b * (q + 4294967296 * V) + r' := by
  rw [Nat.mul_add, Nat.mul_add, Nat.mul_left_comm b]
  omega
set_option maxRecDepth 100000 in
set_option maxHeartbeats 1000000 in
theorem shortDivide_any (ok : Nat → Prop) (A : Option Addr) (la c m b : Nat) (w : World) (ha : la = (dig m).length) (hla : la ≤ lim) (hb0 : 0 < b) (hb1 : b < 4294967296) (hA : Row Kd.u32 w ok A (dig m)) :
    Calls Try.prog 93 #[.slice A la c, .int .u32 (b : Int)] w fun e w' => ∃ A' l, (l = (dig (m / b)).length ∧ Row Kd.u32 w' (Up ok w.heap.size) A' (dig (m / b))) ∧ e = .returned (.tuple #[.slice A' l l, .int .u32 ((m % b : Nat) : Int)]) ∧ Below w.heap.size w w' := by
  refine veil fun R HP => ?_
  have HA := Lib.hid hA
  have EA := Lib.hid ha
  clear hA ha
  unfold lim at hla
  have hmk := make_limbs la (by omega)
  go_enter Try.func93, Try.ntmps93
  go_wp2
  clear hmk
  go_loopw [7, 8] (fun v i w' => ∃ (k r : Nat) (xs : List Nat), k ≤ la ∧ r < b ∧ v = .int .u64 (r : Int) ∧ i = .int .i64 ((k : Int) - 1) ∧ Hid (xs.length = la ∧ OwnL w' w.heap.size xs ∧ Below w.heap.size w w' ∧ val ((dig m).drop k) = b * val (xs.drop k) + r)) (fun _ i _ => (intOf i + 1).toNat)
  case atStart => exact ⟨la, 0, List.replicate la 0, by omega, hb0, rfl, rfl, by simp, OwnL.made _ _, ext_alloc (Below.refl _ _) _, by rw [List.drop_of_length_le (by have := EA.out; omega), List.drop_of_length_le (by simp)]; simp [val]⟩
  case round =>
    obtain ⟨k, r, xs, hk, hr, rfl, rfl, HI⟩ := hrel
    by_cases hlt : 0 < k
    · obtain ⟨k, rfl⟩ : ∃ j, k = j + 1 := ⟨k - 1, by omega⟩
      have HE := Lib.hid HI.out.2.2.1
      have hcell := HI.out.2.1.cell (i := k) (by have := HI.out.1; omega)
      have hfree := HI.out.2.1.free k
      obtain ⟨ad, rfl, c1, l1⟩ := (HA.out.ext HE.out).limb (i := k) (by have := EA.out; omega)
      have hor := or_limb r (nth (dig m) k) (by omega) l1
      rw [show (((k + 1 : Nat) : Int) - 1) = (k : Int) from by omega]
      go_wp2
      obtain ⟨h1, h2, h3, h4⟩ := HI.out
      have hq : (r * 4294967296 + nth (dig m) k) / b < 4294967296 := by
        rw [Nat.div_lt_iff_lt_mul hb0]
        have : r * 4294967296 + 4294967296 ≤ b * 4294967296 := by omega
        omega
      have e1 : ((r : Int) * 4294967296 + (nth (dig m) k : Nat)) / (b : Int) % 4294967296 = (((r * 4294967296 + nth (dig m) k) / b : Nat) : Int) := by
        rw [show ((r : Int) * 4294967296 + (nth (dig m) k : Nat)) = ((r * 4294967296 + nth (dig m) k : Nat) : Int) from by omega, ← Int.natCast_ediv]
        obtain ⟨q, hq'⟩ : ∃ q, q = (r * 4294967296 + nth (dig m) k) / b := ⟨_, rfl⟩
        rw [← hq'] at hq ⊢
        omega
      have e2 : ((r : Int) * 4294967296 + (nth (dig m) k : Nat)) % (b : Int) = (((r * 4294967296 + nth (dig m) k) % b : Nat) : Int) := by
        rw [show ((r : Int) * 4294967296 + (nth (dig m) k : Nat)) = ((r * 4294967296 + nth (dig m) k : Nat) : Int) from by omega, ← Int.natCast_emod]
      rw [e1, e2]
      refine ⟨⟨k, _, xs.set k ((r * 4294967296 + nth (dig m) k) / b), by omega, Nat.mod_lt _ hb0, rfl, rfl, by rw [List.length_set]; exact h1, h2.set_ k _ hq, ext_set h3 (Nat.le_refl _) _, ?_⟩, by simp [intOf] <;> omega⟩
      rw [val_drop_succ _ k (by have := EA.out; omega), val_drop_succ _ k (by rw [List.length_set]; omega), nth_set_same _ _ _ (by omega), List.drop_set_of_lt (by omega), h4]
      exact div_round _ _ _ _ _ _ k (Nat.div_add_mod _ _)
    · obtain rfl : k = 0 := by omega
      have HE := Lib.hid HI.out.2.2.1
      obtain ⟨h1, h2, h3, h4⟩ := HI.out
      rw [List.drop_zero, List.drop_zero, val_dig] at h4
      have hv : val xs = m / b := by
        rw [h4, Nat.mul_add_div hb0, Nat.div_eq_of_lt hr]; rfl
      have hr2 : m % b = r := by rw [h4, Nat.mul_add_mod, Nat.mod_eq_of_lt hr]
      have HV := Lib.hid hv
      have HR2 := Lib.hid hr2
      have hrow := Lib.hid (h2.row (ok := Up ok w.heap.size) (by omega) (.inr (Nat.le_refl _)))
      clear hv h1 h2 h3 h4 hr2
      go_wp2_with fail
      refine (trim_calls (Up ok w.heap.size) _ _ _ xs _ HI.out.1.symm (Nat.le_refl _) hrow.out).mono ?_
      rintro e w1 ⟨l, hl, rfl, rfl⟩
      rw [HV.out] at hl
      have HL := Lib.hid hl
      clear hl
      go_wp2
      exact HP.out _ _ ⟨_, l, HL.out.2, by rw [HR2.out]; rfl, HE.out⟩

/-- The slice '.slice A l c' reads as the canonical limbs of n. -/
abbrev SlN (w : World) (ok : Nat → Prop) (A : Option Addr) (l c n : Nat) : Prop := l = (dig n).length ∧ l ≤ c ∧ Row Kd.u32 w ok A (dig n)
/-- The divisions that are spoken of. -/
def DivCan (m n : Nat) : Prop := (dig n).length ≤ 1 ∨ m < n
theorem dig_one (n : Nat) (h : (dig n).length = 1) : n < 4294967296 ∧ 0 < n ∧ dig n = [n] := by
  have h1 := dig_lt_pow n
  rw [h] at h1
  have h2 : n ≠ 0 := by rintro rfl; simp [dig_zero] at h
  refine ⟨by simpa using h1, by omega, ?_⟩
  rw [dig_pos n h2, Nat.div_eq_of_lt (by simpa using h1), dig_zero, Nat.mod_eq_of_lt (by simpa using h1)]
set_option maxRecDepth 100000 in
set_option maxHeartbeats 1000000 in
theorem divide_any (ok : Nat → Prop) (A B : Option Addr) (la lb c d m n : Nat) (w : World) (hcan : DivCan m n) (hn0 : 0 < n) (ha : la = (dig m).length) (hb : lb = (dig n).length) (hla : la ≤ lim) (hlb : lb ≤ lim) (hA : Row Kd.u32 w ok A (dig m)) (hB : Row Kd.u32 w ok B (dig n)) :
    Calls Try.prog 84 #[.slice A la c, .slice B lb d] w fun e w' => ∃ A1 l1 c1 A2 l2 c2, (SlN w' (Up ok w.heap.size) A1 l1 c1 (m / n) ∧ SlN w' (Up ok w.heap.size) A2 l2 c2 (m % n)) ∧ e = .returned (.tuple #[.slice A1 l1 c1, .slice A2 l2 c2]) ∧ Below w.heap.size w w' := by
  refine veil fun R HP => ?_
  have HA := Lib.hid hA
  have HB := Lib.hid hB
  have EA := Lib.hid ha
  have EB := Lib.hid hb
  have HC := Lib.hid hcan
  have HN0 := Lib.hid hn0
  clear hA hB ha hb hcan hn0
  unfold lim at hla hlb
  go_enter Try.func84, Try.ntmps84
  go_wp2_with fail
  refine (compare_any ok A B c d m n la lb w EA.out EB.out HA.out HB.out).mono ?_
  rintro e w1 ⟨rfl, hw1⟩
  have B1 := Lib.hid (drawn_ext hw1)
  clear hw1
  rcases Nat.lt_or_ge m n with hlt | hge
  · have h0 : ord (m : Int) (n : Int) < 0 := by rw [ord_lt (by omega)]; omega
    have HL := Lib.hid hlt
    clear hlt
    have G0 := Lib.hid (Grow.nil (k := Kd.u32) w1 w1.heap.size 99 (Up ok w.heap.size))
    have R0 := Lib.hid (show Row Kd.u32 w1 (fun b => Up ok w.heap.size b ∧ (Value.slice none 0 0).ownBlock ≠ some b) A (dig m) from (HA.out.ext B1.out).weak fun b h _ => ⟨.inl h, by simp [Value.ownBlock]⟩)
    have INF := Lib.hid info_u32
    go_wp2_with (at_builtin; refine wpList_cat (by rfl) _ _ _ (by rfl) (.int .u32 0) 4 Try.underlying57 INF.out rfl (by decide) (by rfl) G0.out A la c (dig m) EA.out (by rfl) R0.out (by simp; have := EA.out; omega) (by simp; have := EA.out; omega) (Nat.le_refl _) ?_; intro v2 w2 hg2 hgr2 hat2; have G2 := Lib.hid hg2; have B2 := Lib.hid (ext_grown B1.out hgr2 (by simp [Value.ownBlock])); obtain ⟨A2, c2, rfl, hc2, hm2, hr2⟩ := hg2.row (fun g hg => .inr (Nat.le_trans B1.out.size hg)); have R2 := Lib.hid (And.intro hc2 hr2); clear hg2 hgr2 hat2 hc2 hr2)
    exact HP.out _ _ ⟨none, 0, 0, A2, (dig m).length, c2, ⟨⟨by rw [Nat.div_eq_of_lt HL.out, dig_zero]; rfl, Nat.le_refl _, by rw [Nat.div_eq_of_lt HL.out, dig_zero]; exact Row.nil _ _ _⟩, by rw [Nat.mod_eq_of_lt HL.out], by simpa using R2.out.1, by rw [Nat.mod_eq_of_lt HL.out]; exact R2.out.2⟩, rfl, B2.out⟩
  · have h0 : 0 ≤ ord (m : Int) (n : Int) := by unfold ord; split <;> (try split) <;> omega
    have hl1 : lb = 1 := by
      have h1 := HN0.out
      have h2 := EB.out
      rcases HC.out with h | h
      · have := lc_pos n (by omega)
        unfold lc at this
        omega
      · omega
    obtain ⟨hn1, hn2, hn3⟩ := dig_one n (by rw [← EB.out]; exact hl1)
    have HN3 := Lib.hid hn3
    subst hl1
    obtain ⟨bd, rfl, c1, l1⟩ := (HB.out.ext B1.out).limb (i := 0) (by rw [hn3]; simp)
    rw [hn3] at c1
    have e0 : nth [n] 0 = n := rfl
    rw [e0] at c1
    clear l1 hn3 e0
    have c2 : w1.cell? bd = some (.int .u32 (n : Int)) := c1
    clear c1
    go_wp2_with fail
    refine (shortDivide_any ok A la c m n _ EA.out (by unfold lim; omega) hn2 hn1 (HA.out.ext B1.out)).mono ?_
    rintro e w2 ⟨A2, l2, hq, rfl, hb⟩
    have Q2 := Lib.hid (And.intro hq.1 (hq.2.up2 B1.out))
    have B2 := Lib.hid (ext_trans B1.out hb)
    clear hq hb c2
    go_wp2_with fail
    have O3 : OwnL (w2.alloc (.cells #[.int .u32 ((m % n : Nat) : Int)] 99)) w2.heap.size [m % n] := ⟨by
      have := Own.new w2 99 #[.int .u32 ((m % n : Nat) : Int)]
      simpa [limbs] using this, by simp; have := Nat.mod_lt m hn2; omega⟩
    refine (trim_calls (Up ok w.heap.size) _ 1 1 [m % n] _ rfl (Nat.le_refl _) (O3.row (by simp) (.inr B2.out.size))).mono ?_
    clear O3
    rintro e w3 ⟨l3, hq, rfl, rfl⟩
    rw [show val [m % n] = m % n from by simp [val]] at hq
    have Q3 := Lib.hid hq
    clear hq
    go_wp2
    exact HP.out _ _ ⟨A2, l2, l2, some ⟨w2.heap.size, 0, none⟩, l3, l3, ⟨⟨Q2.out.1, Nat.le_refl _, Q2.out.2.alloc _⟩, Q3.out.2.1, Nat.le_refl _, Q3.out.2.2⟩, rfl, ext_alloc B2.out _⟩

/-- Two boxed Ints and two places for results. -/
structure Ow4 (w : World) (H : Nat) (s t : Bool) (A B : Option Addr) (la lb c d : Nat) : Prop where
  a : Own w H 59 [.bool s, .slice A la c]
  b : Own w (H + 1) 59 [.bool t, .slice B lb d]
  r : Own w (H + 1 + 1) 59 [.bool false, .slice none 0 0]
  z : Own w (H + 1 + 1 + 1) 59 [.bool false, .slice none 0 0]
theorem Ow4.ext {w w' : World} {H : Nat} {s t : Bool} {A B : Option Addr} {la lb c d : Nat} (h : Ow4 w H s t A B la lb c d) (hb : Below w.heap.size w w') : Ow4 w' H s t A B la lb c d := ⟨h.a.ext hb, h.b.ext hb, h.r.ext hb, h.z.ext hb⟩
theorem Ow4.new (w : World) (s t : Bool) (A B : Option Addr) (la lb c d : Nat) : Ow4 ((((w.alloc (.cells #[.bool s, .slice A la c] 59)).alloc (.cells #[.bool t, .slice B lb d] 59)).alloc (.cells #[.bool false, .slice none 0 0] 59)).alloc (.cells #[.bool false, .slice none 0 0] 59)) w.heap.size s t A B la lb c d := by
  refine ⟨(((Own.new w 59 #[.bool s, .slice A la c]).alloc _).alloc _).alloc _, ?_, ?_, ?_⟩
  · have := ((Own.new (w.alloc (.cells #[.bool s, .slice A la c] 59)) 59 #[.bool t, .slice B lb d]).alloc (.cells #[.bool false, .slice none 0 0] 59)).alloc (.cells #[.bool false, .slice none 0 0] 59)
    simpa using this
  · have := (Own.new ((w.alloc (.cells #[.bool s, .slice A la c] 59)).alloc (.cells #[.bool t, .slice B lb d] 59)) 59 #[.bool false, .slice none 0 0]).alloc (.cells #[.bool false, .slice none 0 0] 59)
    simpa using this
  · have := Own.new (((w.alloc (.cells #[.bool s, .slice A la c] 59)).alloc (.cells #[.bool t, .slice B lb d] 59)).alloc (.cells #[.bool false, .slice none 0 0] 59)) 59 #[.bool false, .slice none 0 0]
    simpa using this
theorem ext_alloc4 (w : World) (a b c d : Obj) : Below w.heap.size w ((((w.alloc a).alloc b).alloc c).alloc d) := ext_alloc (ext_alloc3 w a b c) _
theorem div_unique (a b q r : Int) (hb : b ≠ 0) (h0 : 0 ≤ r) (h1 : r < (b.natAbs : Int)) (h : r + b * q = a) : q = a / b ∧ r = a % b := by
  have h2 : (a - r) = b * q := by omega
  have hm : a % b = r := by
    rw [← h, Int.add_mul_emod_self_left]
    rcases Int.lt_or_gt_of_ne hb with hb | hb
    · rw [← Int.emod_neg]
      exact Int.emod_eq_of_lt h0 (by omega)
    · exact Int.emod_eq_of_lt h0 (by omega)
  have hd := Int.mul_ediv_add_emod a b
  rw [hm] at hd
  have : b * (a / b) = b * q := by omega
  exact ⟨(Int.eq_of_mul_eq_mul_left hb this).symm, hm.symm⟩
/-- What DivMod does to signs. -/
theorem divmod_plain (s t : Bool) (m n : Nat) (hn : 0 < n) (h : s = false ∨ m % n = 0) : sgn (s != t) (m / n) = sgn s m / sgn t n ∧ ((m % n : Nat) : Int) = sgn s m % sgn t n := by
  have hd := Nat.div_add_mod m n
  have hl := Nat.mod_lt m hn
  have hd' : (n : Int) * ((m / n : Nat) : Int) + ((m % n : Nat) : Int) = (m : Int) := by rw [← Int.natCast_mul]; omega
  refine div_unique _ _ _ _ (by cases t <;> simp [sgn] <;> omega) (by omega) (by rw [sgn_abs]; omega) ?_
  rcases h with rfl | h
  · cases t
    · simp only [sgn, bne, Bool.false_eq_true, if_false, Bool.not_true, BEq.rfl]; omega
    · simp only [sgn, Bool.false_bne, if_true, Bool.false_eq_true, if_false]; rw [Int.neg_mul_neg]; omega
  · rw [h] at hd' ⊢
    generalize m / n = q at hd' ⊢
    cases s <;> cases t <;> simp [sgn, Int.neg_mul, Int.mul_neg] <;> omega
theorem divmod_neg (t : Bool) (m n : Nat) (hn : 0 < n) (h : 0 < m % n) : sgn (true != t) (m / n + 1) = sgn true m / sgn t n ∧ ((n - m % n : Nat) : Int) = sgn true m % sgn t n := by
  have hd := Nat.div_add_mod m n
  have hl := Nat.mod_lt m hn
  have hd' : (n : Int) * ((m / n : Nat) : Int) + ((m % n : Nat) : Int) = (m : Int) := by rw [← Int.natCast_mul]; omega
  refine div_unique _ _ _ _ (by cases t <;> simp [sgn] <;> omega) (by omega) (by rw [sgn_abs]; omega) ?_
  have e : ((m / n + 1 : Nat) : Int) = ((m / n : Nat) : Int) + 1 := by omega
  cases t
  · simp only [sgn, Bool.true_bne, Bool.not_false, if_true, Bool.false_eq_true, if_false]
    rw [e, Int.mul_neg, Int.mul_add]
    omega
  · simp only [sgn, bne_self_eq_false, if_true, Bool.false_eq_true, if_false]
    rw [e, Int.neg_mul, Int.mul_add]
    omega
theorem set_big {w : World} {ok : Nat → Prop} {v : Value} {z : Int} (h : Big w ok v z) {p : Addr} {v0 : Value} (c : w.cell? p = some v0) (hv : ∀ x, v0 ≠ .int .u32 x) (u : Value) : Big (w.setCell p u) ok v z := by
  obtain ⟨A, m, k, e, h1, h2, h3, h4⟩ := h
  exact ⟨A, m, k, e, h1, h2, h3, h4.set_other c hv u⟩
theorem four_sets {w : World} {H K : Nat} {ok : Nat → Prop} {va vb : Value} {x y : Int} {a0 b0 : Bool} {u0 u1 u2 u3 : Value} (r0 : w.cell? ⟨H, 0, none⟩ = some (.bool a0)) (r1 : w.cell? ⟨H, 1, none⟩ = some (.slice none 0 0)) (z0 : w.cell? ⟨K, 0, none⟩ = some (.bool b0)) (z1 : w.cell? ⟨K, 1, none⟩ = some (.slice none 0 0))
    (ha : Big w ok va x) (hb : Big w ok vb y) : Big ((((w.setCell ⟨H, 0, none⟩ u0).setCell ⟨H, 1, none⟩ u1).setCell ⟨K, 0, none⟩ u2).setCell ⟨K, 1, none⟩ u3) ok va x ∧ Big ((((w.setCell ⟨H, 0, none⟩ u0).setCell ⟨H, 1, none⟩ u1).setCell ⟨K, 0, none⟩ u2).setCell ⟨K, 1, none⟩ u3) ok vb y := by
  have key : ∀ {v : Value} {z : Int}, Big w ok v z → Big ((((w.setCell ⟨H, 0, none⟩ u0).setCell ⟨H, 1, none⟩ u1).setCell ⟨K, 0, none⟩ u2).setCell ⟨K, 1, none⟩ u3) ok v z := by
    rintro v z ⟨A, m, k, e, h1, h2, h3, h4⟩
    refine ⟨A, m, k, e, h1, h2, h3, h4.1, fun hp => ?_⟩
    obtain ⟨ad, e2, ho, hb2, hc⟩ := h4.2 hp
    refine ⟨ad, e2, ho, by simpa [World.setCell] using hb2, fun i hi => ?_⟩
    obtain ⟨cs, ⟨rfl, hlt⟩, hcs⟩ := hc i hi
    refine ⟨_, ⟨rfl, hlt⟩, fun j u hj => ?_⟩
    have hq := hcs j u hj
    have hu : ∃ x, u = .int .u32 x := by
      cases j with
      | zero => exact ⟨_, by simpa using hj.symm⟩
      | succ j => simp at hj
    obtain ⟨x, rfl⟩ := hu
    have n1 : ∀ {p : Addr} {b : Bool}, w.cell? p = some (.bool b) → p ≠ ad.add (i * Kd.u32.size + j) := fun hp e => by rw [e, hq] at hp; cases hp
    have n2 : ∀ {p : Addr}, w.cell? p = some (.slice none 0 0) → p ≠ ad.add (i * Kd.u32.size + j) := fun hp e => by rw [e, hq] at hp; cases hp
    exact set_apart (n2 z1) (set_apart (n1 z0) (set_apart (n2 r1) (set_apart (n1 r0) hq)))
  exact ⟨key ha, key hb⟩
set_option maxRecDepth 100000 in
set_option maxHeartbeats 2000000 in
theorem DivMod_any (ok : Nat → Prop) (s t : Bool) (A B : Option Addr) (la lb c d m n : Nat) (w : World) (hcan : DivCan m n) (hn0 : 0 < n) (ha : la = (dig m).length) (hb : lb = (dig n).length) (hc : la ≤ c) (hd : lb ≤ d) (hla : la ≤ lim) (hlb : lb ≤ lim) (hA : Row Kd.u32 w ok A (dig m)) (hB : Row Kd.u32 w ok B (dig n)) :
    Calls Try.prog 69 #[.agg #[.bool s, .slice A la c], .agg #[.bool t, .slice B lb d]] w fun e w' => ∃ v1 v2, (Big w' (Up ok w.heap.size) v1 (sgn s m / sgn t n) ∧ Big w' (Up ok w.heap.size) v2 (sgn s m % sgn t n)) ∧ e = .returned (.tuple #[v1, v2, .bool true]) ∧ Below w.heap.size w w' := by
  refine veil fun R HP => ?_
  have HA := Lib.hid hA
  have HB := Lib.hid hB
  have EA := Lib.hid ha
  have EB := Lib.hid hb
  have HC := Lib.hid hcan
  have HN0 := Lib.hid hn0
  have hlb0 : ((lb : Int) == 0) = false := by
    have := lc_pos n (by omega)
    unfold lc at this
    rw [beq_eq_false_iff_ne]; omega
  clear hA hB ha hb hcan hn0
  unfold lim at hla hlb
  have X := Lib.hid (Ow4.new w s t A B la lb c d)
  have B0 := Lib.hid (ext_alloc4 w (.cells #[.bool s, .slice A la c] 59) (.cells #[.bool t, .slice B lb d] 59) (.cells #[.bool false, .slice none 0 0] 59) (.cells #[.bool false, .slice none 0 0] 59))
  go_enter Try.func69, Try.ntmps69
  go_wp2_with fail
  generalize (((w.alloc (.cells #[.bool s, .slice A la c] 59)).alloc (.cells #[.bool t, .slice B lb d] 59)).alloc (.cells #[.bool false, .slice none 0 0] 59)).alloc (.cells #[.bool false, .slice none 0 0] 59) = w0 at X B0 ⊢
  refine (magnitude_dig ok t B _ d n _ EB.out hd (HB.out.ext B0.out)).mono ?_
  rintro e w1 ⟨rfl, hb⟩
  have X1 := Lib.hid (X.out.ext hb)
  have B1 := Lib.hid (ext_trans B0.out hb)
  clear hb
  have g0 := X1.out.a.cell 0
  have g1 := X1.out.a.cell 1
  go_wp2_with fail
  refine (magnitude_dig ok s A _ c m _ EA.out hc (HA.out.ext B1.out)).mono ?_
  rintro e w2 ⟨rfl, hb⟩
  have X2 := Lib.hid (X1.out.ext hb)
  have B2 := Lib.hid (ext_trans B1.out hb)
  clear hb g0 g1
  go_wp2_with fail
  refine (divide_any ok A B la lb la lb m n _ HC.out HN0.out EA.out EB.out (by unfold lim; omega) (by unfold lim; omega) (HA.out.ext B2.out) (HB.out.ext B2.out)).mono ?_
  rintro e w3 ⟨A1, l1, c1, A2, l2, c2, ⟨h1, h2⟩, rfl, hb⟩
  have Q1 := Lib.hid (show SlN w3 (Up ok w.heap.size) A1 l1 c1 (m / n) from ⟨h1.1, h1.2.1, h1.2.2.up2 B2.out⟩)
  have Q2 := Lib.hid (show SlN w3 (Up ok w.heap.size) A2 l2 c2 (m % n) from ⟨h2.1, h2.2.1, h2.2.2.up2 B2.out⟩)
  have X3 := Lib.hid (X2.out.ext hb)
  have B3 := Lib.hid (ext_trans B2.out hb)
  have hl1 : l1 ≤ 1099511627776 := by have := h1.1; have := dig_mono (m / n) m (Nat.div_le_self _ _); have := EA.out; omega
  have hl2 : l2 ≤ 1099511627776 := by have := h2.1; have := dig_mono (m % n) m (Nat.mod_le _ _); have := EA.out; omega
  clear hb h1 h2
  have g0 := X3.out.a.cell 0
  by_cases hs : s = false ∨ m % n = 0
  · have V := Lib.hid (divmod_plain s t m n HN0.out hs)
    have hg : s = false ∨ (s = true ∧ l2 = 0) := by
      rcases hs with h | h
      · exact .inl h
      · cases s
        · exact .inl rfl
        · exact .inr ⟨rfl, by rw [Q2.out.1, h, dig_zero]; rfl⟩
    clear hs
    rcases hg with rfl | ⟨rfl, rfl⟩
    · clear g0
      have V := Lib.hid (show sgn t (m / n) = sgn false m / sgn t n ∧ ((m % n : Nat) : Int) = sgn false m % sgn t n from by have := V.out; rwa [Bool.false_bne] at this)
      have g0 := X3.out.a.cell 0
      have g1 := X3.out.b.cell 0
      go_wp2_with fail
      with_reducible refine (signed_dig (Up ok w.heap.size) (t) A1 l1 c1 (m / n) _ Q1.out.1 Q1.out.2.1 Q1.out.2.2).mono ?_
      rintro e w8 ⟨v, ⟨A8, l8, c8, rfl, hv⟩, rfl, hb⟩
      have Q8 := Lib.hid hv
      have X8 := Lib.hid (X3.out.ext hb)
      have R8 := Lib.hid (Q2.out.2.2.ext hb)
      have B8 := Lib.hid (ext_trans B3.out hb)
      clear hv hb g0 g1
      go_wp2_with fail
      with_reducible refine (signed_dig (Up ok w.heap.size) false A2 l2 c2 (m % n) _ Q2.out.1 Q2.out.2.1 R8.out).mono ?_
      rintro e w9 ⟨v, ⟨A9, l9, c9, rfl, hv⟩, rfl, hb⟩
      have Q9 := Lib.hid hv
      have P9 := Lib.hid (Q8.out.2.2.2.ext hb)
      have X9 := Lib.hid (X8.out.ext hb)
      have B9 := Lib.hid (ext_trans B8.out hb)
      clear hv hb
      have r0 := X9.out.r.cell 0
      have r1 := X9.out.r.cell 1
      have z0 := X9.out.z.cell 0
      have z1 := X9.out.z.cell 1
      have f0 := X9.out.r.free 0
      have f1 := X9.out.r.free 1
      have f2 := X9.out.z.free 0
      have f3 := X9.out.z.free 1
      go_wp2
      refine bodyPost_ret (v := .tuple #[.agg #[.bool (decide (sgn (t) (m / n) < 0)), .slice A8 l8 c8], .agg #[.bool (decide (sgn false (m % n) < 0)), .slice A9 l9 c9], .bool true]) (by simp [results, Try.results69, go_sem, r0, r1, z0, z1]) rfl (HP.out _ _ ⟨_, _, ?_, rfl, ?_⟩)
      · rw [← V.out.1, ← V.out.2]
        exact four_sets r0 r1 z0 z1 ⟨A8, l8, c8, rfl, Q8.out.1, Q8.out.2.1, Q8.out.2.2.1, P9.out⟩ ⟨A9, l9, c9, rfl, Q9.out.1, Q9.out.2.1, Q9.out.2.2.1, Q9.out.2.2.2⟩
      · exact ext_set (ext_set (ext_set (ext_set B9.out (by simp; omega) _) (by simp; omega) _) (by simp; omega) _) (by simp; omega) _
    · clear g0
      have V := Lib.hid (show sgn (!t) (m / n) = sgn true m / sgn t n ∧ ((m % n : Nat) : Int) = sgn true m % sgn t n from by have := V.out; rwa [Bool.true_bne] at this)
      have g0 := X3.out.a.cell 0
      have g1 := X3.out.b.cell 0
      go_wp2_with fail
      with_reducible refine (signed_dig (Up ok w.heap.size) (!t) A1 l1 c1 (m / n) _ Q1.out.1 Q1.out.2.1 Q1.out.2.2).mono ?_
      rintro e w8 ⟨v, ⟨A8, l8, c8, rfl, hv⟩, rfl, hb⟩
      have Q8 := Lib.hid hv
      have X8 := Lib.hid (X3.out.ext hb)
      have R8 := Lib.hid (Q2.out.2.2.ext hb)
      have B8 := Lib.hid (ext_trans B3.out hb)
      clear hv hb g0 g1
      go_wp2_with fail
      with_reducible refine (signed_dig (Up ok w.heap.size) false A2 0 c2 (m % n) _ Q2.out.1 Q2.out.2.1 R8.out).mono ?_
      rintro e w9 ⟨v, ⟨A9, l9, c9, rfl, hv⟩, rfl, hb⟩
      have Q9 := Lib.hid hv
      have P9 := Lib.hid (Q8.out.2.2.2.ext hb)
      have X9 := Lib.hid (X8.out.ext hb)
      have B9 := Lib.hid (ext_trans B8.out hb)
      clear hv hb
      have r0 := X9.out.r.cell 0
      have r1 := X9.out.r.cell 1
      have z0 := X9.out.z.cell 0
      have z1 := X9.out.z.cell 1
      have f0 := X9.out.r.free 0
      have f1 := X9.out.r.free 1
      have f2 := X9.out.z.free 0
      have f3 := X9.out.z.free 1
      go_wp2
      refine bodyPost_ret (v := .tuple #[.agg #[.bool (decide (sgn (!t) (m / n) < 0)), .slice A8 l8 c8], .agg #[.bool (decide (sgn false (m % n) < 0)), .slice A9 l9 c9], .bool true]) (by simp [results, Try.results69, go_sem, r0, r1, z0, z1]) rfl (HP.out _ _ ⟨_, _, ?_, rfl, ?_⟩)
      · rw [← V.out.1, ← V.out.2]
        exact four_sets r0 r1 z0 z1 ⟨A8, l8, c8, rfl, Q8.out.1, Q8.out.2.1, Q8.out.2.2.1, P9.out⟩ ⟨A9, l9, c9, rfl, Q9.out.1, Q9.out.2.1, Q9.out.2.2.1, Q9.out.2.2.2⟩
      · exact ext_set (ext_set (ext_set (ext_set B9.out (by simp; omega) _) (by simp; omega) _) (by simp; omega) _) (by simp; omega) _
  · obtain rfl : s = true := by cases s <;> simp_all
    have hpos : 0 < m % n := by
      rcases Nat.eq_zero_or_pos (m % n) with h | h
      · exact absurd (.inr h) hs
      · exact h
    have V := Lib.hid (show sgn (!t) (m / n + 1) = sgn true m / sgn t n ∧ ((n - m % n : Nat) : Int) = sgn true m % sgn t n from by have := divmod_neg t m n HN0.out hpos; rwa [Bool.true_bne] at this)
    have hl20 : 0 < l2 := by have := lc_pos (m % n) (by omega); unfold lc at this; have := Q2.out.1; omega
    have HPOS := Lib.hid hpos
    clear hs hpos
    go_wp2_with fail
    have O4 : OwnL (w3.alloc (.cells #[.int .u32 1] 99)) w3.heap.size [1] := ⟨by
      have := Own.new w3 99 #[.int .u32 1]
      simpa [limbs] using this, by simp⟩
    have d1 : dig 1 = [1] := by rw [dig_pos 1 (by omega)]; simp [dig_zero]
    have O4r := O4.row (ok := Up ok w.heap.size) (by simp) (.inr B3.out.size)
    rw [← d1] at O4r
    refine (plus_any (Up ok w.heap.size) A1 _ l1 1 c1 1 (m / n) 1 _ Q1.out.1 (by rw [d1]; rfl) (by unfold lim; omega) (by unfold lim; omega) (Q1.out.2.2.alloc _) O4r).mono ?_
    clear O4 O4r d1 g0
    rintro e w4 ⟨A4, l4, ⟨h4, h4r⟩, rfl, hb⟩
    have B3' := ext_alloc B3.out (.cells #[.int .u32 1] 99)
    have E4 := Lib.hid (ext_trans (ext_alloc (Below.refl w3.heap.size w3) (.cells #[.int .u32 1] 99)) hb)
    have Q4 := Lib.hid (show SlN w4 (Up ok w.heap.size) A4 l4 l4 (m / n + 1) from ⟨h4, Nat.le_refl _, h4r.weak fun b h _ => h.elim id fun h => .inr (Nat.le_trans B3'.size h)⟩)
    have X4 := Lib.hid (X3.out.ext E4.out)
    have B4 := Lib.hid (ext_trans B3.out E4.out)
    clear hb h4 h4r B3'
    go_wp2_with fail
    refine (minus_any (Up ok w.heap.size) B A2 lb l2 lb c2 n (m % n) _ (Nat.le_of_lt (Nat.mod_lt _ HN0.out)) EB.out Q2.out.1 (by unfold lim; omega) ((HB.out.ext B4.out).up _) (Q2.out.2.2.ext E4.out)).mono ?_
    rintro e w5 ⟨A5, l5, ⟨h5, h5r⟩, rfl, hb⟩
    have Q5 := Lib.hid (show SlN w5 (Up ok w.heap.size) A5 l5 l5 (n - m % n) from ⟨h5, Nat.le_refl _, h5r.weak fun b h _ => h.elim id fun h => .inr (Nat.le_trans B4.out.size h)⟩)
    have Q6 := Lib.hid (show SlN w5 (Up ok w.heap.size) A4 l4 l4 (m / n + 1) from ⟨Q4.out.1, Q4.out.2.1, Q4.out.2.2.ext hb⟩)
    have X5 := Lib.hid (X4.out.ext hb)
    have B5 := Lib.hid (ext_trans B4.out hb)
    clear hb h5 h5r
    have g0 := X5.out.a.cell 0
    have g1 := X5.out.b.cell 0
    go_wp2_with fail
    with_reducible refine (signed_dig (Up ok w.heap.size) (!t) A4 l4 l4 (m / n + 1) _ Q6.out.1 Q6.out.2.1 Q6.out.2.2).mono ?_
    rintro e w8 ⟨v, ⟨A8, l8, c8, rfl, hv⟩, rfl, hb⟩
    have Q8 := Lib.hid hv
    have X8 := Lib.hid (X5.out.ext hb)
    have R8 := Lib.hid (Q5.out.2.2.ext hb)
    have B8 := Lib.hid (ext_trans B5.out hb)
    clear hv hb g0 g1
    go_wp2_with fail
    with_reducible refine (signed_dig (Up ok w.heap.size) false A5 l5 l5 (n - m % n) _ Q5.out.1 Q5.out.2.1 R8.out).mono ?_
    rintro e w9 ⟨v, ⟨A9, l9, c9, rfl, hv⟩, rfl, hb⟩
    have Q9 := Lib.hid hv
    have P9 := Lib.hid (Q8.out.2.2.2.ext hb)
    have X9 := Lib.hid (X8.out.ext hb)
    have B9 := Lib.hid (ext_trans B8.out hb)
    clear hv hb
    have r0 := X9.out.r.cell 0
    have r1 := X9.out.r.cell 1
    have z0 := X9.out.z.cell 0
    have z1 := X9.out.z.cell 1
    have f0 := X9.out.r.free 0
    have f1 := X9.out.r.free 1
    have f2 := X9.out.z.free 0
    have f3 := X9.out.z.free 1
    go_wp2
    refine bodyPost_ret (v := .tuple #[.agg #[.bool (decide (sgn (!t) (m / n + 1) < 0)), .slice A8 l8 c8], .agg #[.bool (decide (sgn false (n - m % n) < 0)), .slice A9 l9 c9], .bool true]) (by simp [results, Try.results69, go_sem, r0, r1, z0, z1]) rfl (HP.out _ _ ⟨_, _, ?_, rfl, ?_⟩)
    · rw [← V.out.1, ← V.out.2]
      exact four_sets r0 r1 z0 z1 ⟨A8, l8, c8, rfl, Q8.out.1, Q8.out.2.1, Q8.out.2.2.1, P9.out⟩ ⟨A9, l9, c9, rfl, Q9.out.1, Q9.out.2.1, Q9.out.2.2.1, Q9.out.2.2.2⟩
    · exact ext_set (ext_set (ext_set (ext_set B9.out (by simp; omega) _) (by simp; omega) _) (by simp; omega) _) (by simp; omega) _

end Go.Proofs.Ythibocafjkbeeaa
/-
  The functions of package integer on canonical integers: what they return. Condition: the integers have fewer limbs than a given bound.
-/
namespace Go.Proofs.Ythibocafjkbeeaa
open Go.RowKit

theorem Big.ext {w w' : World} {ok : Nat → Prop} {v : Value} {z : Int} (h : Big w ok v z) (hb : Below w.heap.size w w') : Big w' ok v z := by
  obtain ⟨A, m, c, e, h1, h2, h3, h4⟩ := h
  exact ⟨A, m, c, e, h1, h2, h3, h4.ext hb⟩
theorem Big.weak {w : World} {ok ok' : Nat → Prop} {v : Value} {z : Int} (h : Big w ok v z) (hk : ∀ b, ok b → b < w.heap.size → ok' b) : Big w ok' v z := by
  obtain ⟨A, m, c, e, h1, h2, h3, h4⟩ := h
  exact ⟨A, m, c, e, h1, h2, h3, h4.weak hk⟩
theorem Big.all {w : World} {ok : Nat → Prop} {v : Value} {z : Int} (h : Big w ok v z) : Big w All v z := h.weak fun _ _ _ => trivial
theorem Big.K {w : World} {ok : Nat → Prop} {v : Value} {z : Int} (h : Big w ok v z) : Kd.big.K w ok z v.cells.toList := by
  obtain ⟨A, m, c, rfl, rfl, h2, h3, h4⟩ := h
  exact ⟨[.bool (decide (z < 0))], [.slice A (dig z.natAbs).length c], rfl, rfl, A, c, rfl, h2, h3, h4⟩
theorem big_of_K {w : World} {ok : Nat → Prop} {z : Int} {cs : List Value} (h : Kd.big.K w ok z cs) : ∃ A m c, cs = [.bool (decide (z < 0)), .slice A m c] ∧ Big w ok (.agg #[.bool (decide (z < 0)), .slice A m c]) z := by
  obtain ⟨c, d, rfl, h1, A, c', h2, h3, h4, h5⟩ := h
  have h1' : c = [.bool (decide (z < 0))] := h1
  subst h1'
  subst h2
  exact ⟨A, _, c', rfl, A, _, c', rfl, rfl, h3, h4, h5⟩
/-- No more limbs than are spoken of. -/
def Sm (z : Int) : Prop := lc z.natAbs ≤ lim

section
variable (ok : Nat → Prop) (v1 v2 : Value) (x y : Int) (w : World)
theorem Sign_big (h1 : Big w ok v1 x) : Calls Try.prog 53 #[v1] w fun e w' => e = .returned (.int .i64 x.sign) ∧ Below w.heap.size w w' := by
  obtain ⟨A, m, c, rfl, e1, e2, e3, e4⟩ := h1
  have := Sign_any ok (decide (x < 0)) A m c _ w e1 e2 e4
  rwa [sgn_big] at this
theorem Cmp_big (h1 : Big w ok v1 x) (h2 : Big w ok v2 y) : Calls Try.prog 33 #[v1, v2] w fun e w' => e = .returned (.int .i64 (ord x y)) ∧ Below w.heap.size w w' := by
  obtain ⟨A, m, c, rfl, e1, e2, e3, e4⟩ := h1
  obtain ⟨B, n, d, rfl, f1, f2, f3, f4⟩ := h2
  have := Cmp_any ok (decide (x < 0)) (decide (y < 0)) A B m n c d _ _ w e1 f1 e2 f2 e4 f4
  rwa [sgn_big, sgn_big] at this
theorem Mul_big (h1 : Big w ok v1 x) (h2 : Big w ok v2 y) (b1 : Sm x) (b2 : Sm y) : Calls Try.prog 40 #[v1, v2] w fun e w' => ∃ v, Big w' (Up ok w.heap.size) v (x * y) ∧ e = .returned v ∧ Below w.heap.size w w' := by
  obtain ⟨A, m, c, rfl, e1, e2, e3, e4⟩ := h1
  obtain ⟨B, n, d, rfl, f1, f2, f3, f4⟩ := h2
  have := Mul_any ok (decide (x < 0)) (decide (y < 0)) A B m n c d _ _ w e1 f1 e2 f2 (by rw [e1]; exact b1) (by rw [f1]; exact b2) e4 f4
  rwa [sgn_big, sgn_big] at this
theorem Add_big (h1 : Big w ok v1 x) (h2 : Big w ok v2 y) (b1 : Sm x) (b2 : Sm y) : Calls Try.prog 39 #[v1, v2] w fun e w' => ∃ v, Big w' (Up ok w.heap.size) v (x + y) ∧ e = .returned v ∧ Below w.heap.size w w' := by
  obtain ⟨A, m, c, rfl, e1, e2, e3, e4⟩ := h1
  obtain ⟨B, n, d, rfl, f1, f2, f3, f4⟩ := h2
  have := Add_any ok (decide (x < 0)) (decide (y < 0)) A B m n c d _ _ w e1 f1 e2 f2 (by rw [e1]; exact b1) (by rw [f1]; exact b2) e4 f4
  rwa [sgn_big, sgn_big] at this
theorem Sub_big (h1 : Big w ok v1 x) (h2 : Big w ok v2 y) (b1 : Sm x) (b2 : Sm y) : Calls Try.prog 68 #[v1, v2] w fun e w' => ∃ v, Big w' (Up ok w.heap.size) v (x - y) ∧ e = .returned v ∧ Below w.heap.size w w' := by
  obtain ⟨A, m, c, rfl, e1, e2, e3, e4⟩ := h1
  obtain ⟨B, n, d, rfl, f1, f2, f3, f4⟩ := h2
  have := Sub_any ok (decide (x < 0)) (decide (y < 0)) A B m n c d _ _ w e1 f1 e2 f2 (by rw [e1]; exact b1) (by rw [f1]; exact b2) e4 f4
  rwa [sgn_big, sgn_big] at this
theorem Normalize_big (h1 : Big w ok v1 x) (b1 : Sm x) : Calls Try.prog 66 #[v1] w fun e w' => ∃ v, Big w' (Up ok w.heap.size) v x ∧ e = .returned v ∧ Below w.heap.size w w' := by
  obtain ⟨A, m, c, rfl, e1, e2, e3, e4⟩ := h1
  have := Normalize_any ok (decide (x < 0)) A m c _ w e1 e2 (by rw [e1]; exact b1) e4
  rwa [sgn_big] at this
theorem Neg_big (h1 : Big w ok v1 x) (b1 : Sm x) : Calls Try.prog 99 #[v1] w fun e w' => ∃ v, Big w' (Up ok w.heap.size) v (-x) ∧ e = .returned v ∧ Below w.heap.size w w' := by
  obtain ⟨A, m, c, rfl, e1, e2, e3, e4⟩ := h1
  have := Neg_any ok (decide (x < 0)) A m c _ w e1 e2 (by rw [e1]; exact b1) e4
  rwa [sgn_big] at this
theorem DivMod_big (h1 : Big w ok v1 x) (h2 : Big w ok v2 y) (b1 : Sm x) (b2 : Sm y) (hy : y ≠ 0) (hcan : DivCan x.natAbs y.natAbs) : Calls Try.prog 69 #[v1, v2] w fun e w' => ∃ v1 v2, (Big w' (Up ok w.heap.size) v1 (x / y) ∧ Big w' (Up ok w.heap.size) v2 (x % y)) ∧ e = .returned (.tuple #[v1, v2, .bool true]) ∧ Below w.heap.size w w' := by
  obtain ⟨A, m, c, rfl, e1, e2, e3, e4⟩ := h1
  obtain ⟨B, n, d, rfl, f1, f2, f3, f4⟩ := h2
  have := DivMod_any ok (decide (x < 0)) (decide (y < 0)) A B m n c d _ _ w hcan (by omega) e1 f1 e2 f2 (by rw [e1]; exact b1) (by rw [f1]; exact b2) e4 f4
  rwa [sgn_big, sgn_big] at this
end

theorem or_limb2 (x y : Nat) (hx : x < 4294967296) (hy : y < 4294967296) : bits .or .u64 (x : Int) ((y : Int) * 4294967296) = ((x + y * 4294967296 : Nat) : Int) := by
  have h := or_limb y x hy hx
  rw [show ((y : Int) * 4294967296) = ((y * 4294967296 : Nat) : Int) from by omega, u64_or_nat _ _ (by omega) (by omega)] at h ⊢
  rw [Nat.or_comm, h]
  omega
set_option maxRecDepth 100000 in
set_option maxHeartbeats 1000000 in
theorem Int64_any (ok : Nat → Prop) (s : Bool) (A : Option Addr) (la c n : Nat) (w : World) (ha : la = (dig n).length) (hc : la ≤ c) (hA : Row Kd.u32 w ok A (dig n)) :
    Calls Try.prog 38 #[.agg #[.bool s, .slice A la c]] w fun e w' => e = .returned (if -9223372036854775808 ≤ sgn s n ∧ sgn s n ≤ 9223372036854775807 ∧ la ≤ 2 then .tuple #[.int .i64 (sgn s n), .bool true] else .tuple #[.int .i64 0, .bool false]) ∧ Below w.heap.size w w' := by
  refine veil fun R HP => ?_
  have HA := Lib.hid hA
  have EA := Lib.hid ha
  clear hA ha
  have k1 := Lib.hid (Own.new w 59 #[.bool s, .slice A la c])
  have B0 := Lib.hid (ext_alloc (Below.refl w.heap.size w) (.cells #[.bool s, .slice A la c] 59))
  go_enter Try.func38, Try.ntmps38
  go_wp2_with fail
  generalize w.alloc (.cells #[.bool s, .slice A la c] 59) = w0 at k1 B0 ⊢
  with_reducible refine (magnitude_dig ok s A _ c n _ EA.out hc (HA.out.ext B0.out)).mono ?_
  rintro e w1 ⟨rfl, hb⟩
  have k2 := Lib.hid (k1.out.ext hb)
  have B1 := Lib.hid (ext_trans B0.out hb)
  clear hb
  by_cases h2 : 2 < la
  · go_wp2
    exact HP.out _ _ ⟨by rw [if_neg (by omega)]; rfl, B1.out⟩
  · have g0 : w1.cell? ⟨w.heap.size, 0, none⟩ = some (.bool s) := k2.out.cell 0
    go_wp2_with fail
    go_loop [5, 14] (fun u i => ∃ k : Nat, k ≤ la ∧ i = .int .i64 (k : Int) ∧ u = .int .u64 ((val ((dig n).take k) : Nat) : Int)) (fun _ i => la - (intOf i).toNat)
    case atStart => exact ⟨0, by omega, rfl, by simp [val]⟩
    case round =>
      obtain ⟨k, hk, rfl, rfl⟩ := hrel
      by_cases hlt : k < la
      · have hkl : k < (dig n).length := by have := EA.out; omega
        obtain ⟨ad, rfl, c1, l1⟩ := (HA.out.ext B1.out).limb hkl
        have hv := val_take_succ (dig n) k hkl
        rcases (show k = 0 ∨ k = 1 by omega) with rfl | rfl
        · have e1 : val ((dig n).take 0) = 0 := by simp [val]
          rw [e1] at hv ⊢
          have HV := Lib.hid hv
          clear hv e1
          have c2 : w1.cell? ad = some (.int .u32 ((nth (dig n) 0 : Nat) : Int)) := c1
          clear c1
          go_wp2
          refine ⟨⟨1, by omega, rfl, ?_⟩, by simp [intOf]; omega⟩
          rw [show ((0 : Int)) = ((0 : Nat) : Int) from rfl, u64_or_nat _ _ (by omega) (by omega), Nat.zero_or, show val ((dig n).take 1) = _ from HV.out]
          simp
        · obtain ⟨u, hu⟩ : ∃ u, u = val ((dig n).take 1) := ⟨_, rfl⟩
          have hul := val_take_lt (dig n) (dig_lt n) 1 (by omega)
          rw [← hu] at hv hul ⊢
          have HV := Lib.hid hv
          have HU := Lib.hid hu
          clear hv hu
          have c2 : w1.cell? ⟨ad.block, ad.off + 1, none⟩ = some (.int .u32 ((nth (dig n) 1 : Nat) : Int)) := c1
          clear c1
          go_wp2
          refine ⟨⟨2, by omega, rfl, ?_⟩, by simp [intOf]; omega⟩
          rw [or_limb2 _ _ (by simpa using hul) l1, show val ((dig n).take 2) = _ from HV.out, Nat.pow_one, Nat.mul_comm]
      · obtain rfl : k = la := by omega
        have hv : val ((dig n).take k) = n := by rw [val_take_all _ _ (by have := EA.out; omega), val_dig]
        rw [hv]
        have hn : n < 18446744073709551616 := by
          have h1 := dig_lt_pow n
          rw [← EA.out] at h1
          have h3 : 4294967296 ^ k ≤ 4294967296 ^ 2 := Nat.pow_le_pow_right (by omega) (by omega)
          omega
        clear hv
        cases s
        · by_cases hs : n ≤ 9223372036854775807
          · have D := Lib.hid (show R (.returned (.tuple #[.int .i64 (n : Int), .bool true])) w1 from HP.out _ _ ⟨by rw [if_pos ⟨by simp [sgn] <;> omega, by simp [sgn] <;> omega, by omega⟩]; rfl, B1.out⟩)
            go_wp2
            exact D.out
          · have D := Lib.hid (show R (.returned (.tuple #[.int .i64 0, .bool false])) w1 from HP.out _ _ ⟨by rw [if_neg (by simp [sgn]; omega)], B1.out⟩)
            go_wp2
            exact D.out
        · by_cases hs : n ≤ 9223372036854775808
          · have D := Lib.hid (show R (.returned (.tuple #[.int .i64 (-(n : Int)), .bool true])) w1 from HP.out _ _ ⟨by rw [if_pos ⟨by simp [sgn] <;> omega, by simp [sgn] <;> omega, by omega⟩]; rfl, B1.out⟩)
            go_wp2
            rw [show wrap64 (IntKind.u64.wrap (-(n : Int))) = -(n : Int) from by rw [IntKind.wrap_u64]; unfold wrap64; omega]
            exact D.out
          · have D := Lib.hid (show R (.returned (.tuple #[.int .i64 0, .bool false])) w1 from HP.out _ _ ⟨by rw [if_neg (by simp [sgn]; omega)], B1.out⟩)
            go_wp2
            exact D.out

/-- Int64 of a canonical integer. -/
def fits64 (x : Int) : Bool := decide (-9223372036854775808 ≤ x ∧ x ≤ 9223372036854775807)
theorem lc_64 {x : Int} (h : -9223372036854775808 ≤ x) (h2 : x ≤ 9223372036854775807) : (dig x.natAbs).length ≤ 2 := lc_le (L := 2) (by omega)
theorem Int64_big (ok : Nat → Prop) (v1 : Value) (x : Int) (w : World) (h1 : Big w ok v1 x) :
    Calls Try.prog 38 #[v1] w fun e w' => e = .returned (.tuple #[.int .i64 (if fits64 x = true then x else 0), .bool (fits64 x)]) ∧ Below w.heap.size w w' := by
  obtain ⟨A, m, c, rfl, e1, e2, e3, e4⟩ := h1
  refine (Int64_any ok (decide (x < 0)) A m c _ w e1 e2 e4).mono ?_
  rintro e w' ⟨rfl, hb⟩
  refine ⟨?_, hb⟩
  rw [sgn_big]
  by_cases h : -9223372036854775808 ≤ x ∧ x ≤ 9223372036854775807
  · rw [if_pos ⟨h.1, h.2, by rw [e1]; exact lc_64 h.1 h.2⟩]
    simp [fits64, h]
  · rw [if_neg (fun g => h ⟨g.1, g.2.1⟩)]
    have : fits64 x = false := by simp only [fits64, decide_eq_false_iff_not]; exact h
    simp [this]
theorem Small_big (ok : Nat → Prop) (x : Int) (w : World) (h1 : -9223372036854775808 ≤ x) (h2 : x ≤ 9223372036854775807) :
    Calls Try.prog 35 #[.int .i64 x] w fun e w' => ∃ v, Big w' (Up ok w.heap.size) v x ∧ e = .returned v ∧ Below w.heap.size w w' := Small_any ok x w h1 h2
theorem Sm_64 {x : Int} (h : -9223372036854775808 ≤ x) (h2 : x ≤ 9223372036854775807) : Sm x := by
  have := lc_64 h h2
  unfold Sm lim lc
  omega
end Go.Proofs.Ythibocafjkbeeaa
/-
  matrix.shape and matrix.Shape: what they return. No condition but that the argument can be read.
-/
namespace Go.Proofs.Ythibocafjkbeeaa
open Go.RowKit

/-- Element i of a slice of slices. -/
theorem Row.sub {α : Type} {k : Kd α} {w : World} {ok : Nat → Prop} {A : Option Addr} {xs : List (List α)} (h : Row k.slice w ok A xs) {i : Nat} (hi : i < xs.length) :
    ∃ ad B c, A = some ad ∧ w.cell? (ad.add i) = some (.slice B (nth xs i).length c) ∧ (nth xs i).length ≤ c ∧ c ≤ 9223372036854775807 ∧ Row k w ok B (nth xs i) := by
  obtain ⟨ad, cs, e, _, _, ⟨B, c, rfl, h1, h2, h3⟩, hc⟩ := h.at_ hi
  refine ⟨ad, B, c, e, ?_, h1, h2, h3⟩
  have := hc 0 _ rfl
  simpa [Kd.slice] using this
/-- The shape of a list of rows, as Go's function tells it. -/
def shp {α : Type} (m : List (List α)) : Bool := decide (1 ≤ m.length ∧ m.length ≤ 16 ∧ 1 ≤ (nth m 0).length ∧ (nth m 0).length ≤ 16 ∧ ∀ i, i < m.length → (nth m i).length = (nth m 0).length)
def rws {α : Type} (m : List (List α)) : Nat := if shp m = true then m.length else 0
def cls {α : Type} (m : List (List α)) : Nat := if shp m = true then (nth m 0).length else 0
theorem shp_false {α : Type} (m : List (List α)) (h : m.length < 1 ∨ 16 < m.length ∨ (nth m 0).length < 1 ∨ 16 < (nth m 0).length) : shp m = false := by
  simp only [shp, decide_eq_false_iff_not]
  rintro ⟨h1, h2, h3, h4, -⟩
  omega

set_option maxRecDepth 100000 in
set_option maxHeartbeats 1000000 in
theorem shape_ints {α : Type} (k : Kd α) (ok : Nat → Prop) (A : Option Addr) (n c : Nat) (m : List (List α)) (w : World) (hn : n = m.length) (h : Row k.slice w ok A m) :
    Calls Try.prog 46 #[.slice A n c] w fun e w' => e = .returned (.tuple #[.int .i64 (rws m : Nat), .int .i64 (cls m : Nat), .bool (shp m)]) ∧ Drawn w w' := by
  refine veil fun R HP => ?_
  have hm := h.1
  rw [← hn] at hm
  have HR := Lib.hid h
  have HN := Lib.hid hn
  clear h hn
  have no := fun hs : shp m = false => HP.out (.returned (.tuple #[.int .i64 0, .int .i64 0, .bool false])) w ⟨by rw [rws, cls, hs]; rfl, drawn_refl w⟩
  have NO := Lib.hid no
  clear no
  by_cases h1 : n < 1
  · have D := Lib.hid (NO.out (shp_false m (by have := HN.out; omega)))
    go_enter Try.func46, Try.ntmps46
    go_wp2
    go_ret3
    exact D.out
  by_cases h2 : 16 < n
  · have D := Lib.hid (NO.out (shp_false m (by have := HN.out; omega)))
    go_enter Try.func46, Try.ntmps46
    go_wp2
    go_ret3
    exact D.out
  obtain ⟨ad, B, c0, rfl, hc0, hle, hcm, -⟩ := HR.out.sub (i := 0) (by have := HN.out; omega)
  have hc1 : w.cell? ad = some (.slice B (nth m 0).length c0) := hc0
  clear hc0
  obtain ⟨n0, hn0⟩ : ∃ n0, n0 = (nth m 0).length := ⟨_, rfl⟩
  rw [← hn0] at hc1 hle
  have HN0 := Lib.hid hn0
  clear hn0
  by_cases h3 : n0 < 1
  · have D := Lib.hid (NO.out (shp_false m (by have := HN.out; have := HN0.out; omega)))
    go_enter Try.func46, Try.ntmps46
    go_wp2
    go_ret3
    exact D.out
  by_cases h4 : 16 < n0
  · have D := Lib.hid (NO.out (shp_false m (by have := HN.out; have := HN0.out; omega)))
    go_enter Try.func46, Try.ntmps46
    go_wp2
    go_ret3
    exact D.out
  go_enter Try.func46, Try.ntmps46
  go_wp2
  go_loop [31] (fun i => ∃ j : Nat, j ≤ n ∧ i = .int .i64 (j : Int) ∧ Hid (∀ i, i < j → (nth m i).length = n0)) (fun i => n - (intOf i).toNat)
  case atStart => exact ⟨0, by omega, rfl, fun i hi => by omega⟩
  case round =>
    obtain ⟨j, hj, rfl, HI⟩ := hrel
    by_cases hlt : j < n
    · obtain ⟨ad', B', c', e, hc, hle', hcm', -⟩ := HR.out.sub (i := j) (by have := HN.out; omega)
      obtain rfl : ad = ad' := by injection e
      clear e
      obtain ⟨n1, hn1⟩ : ∃ n1, n1 = (nth m j).length := ⟨_, rfl⟩
      rw [← hn1] at hc hle'
      have HN1 := Lib.hid hn1
      clear hn1
      by_cases he : n1 = n0
      · have hb : ((n1 : Int) != (n0 : Int)) = false := by rw [bne_eq_false_iff_eq]; omega
        have HE := Lib.hid he
        clear he
        go_wp2
        go_round
        case rel => exact ⟨j + 1, by omega, by go_num, fun i hi => by
          by_cases g : i = j
          · subst g; rw [← HN1.out]; exact HE.out
          · exact HI.out i (by omega)⟩
        case measure => simp [intOf] <;> omega
      · have hb : ((n1 : Int) != (n0 : Int)) = true := by rw [bne_iff_ne]; omega
        have D := Lib.hid (NO.out (by
          simp only [shp, decide_eq_false_iff_not]
          rintro ⟨-, -, -, -, g⟩
          exact he (by rw [HN1.out, HN0.out]; exact g j (by have := HN.out; omega))))
        clear he
        go_wp2
        go_ret3
        exact D.out
    · have hsh : shp m = true := by
        simp only [shp, decide_eq_true_eq]
        have a1 := HN.out
        have a2 := HN0.out
        refine ⟨by omega, by omega, by omega, by omega, fun i hi => by rw [← a2]; exact HI.out i (by omega)⟩
      have D := Lib.hid (fun w' (hw : Drawn w w') => HP.out (.returned (.tuple #[.int .i64 (n : Int), .int .i64 (n0 : Int), .bool true])) w' ⟨by rw [rws, cls, hsh, if_pos rfl, if_pos rfl, ← HN.out, ← HN0.out], hw⟩)
      clear hsh
      go_wp2
      go_quiet (fail)
      go_wp2
      go_ret3
      exact D.out _ (by repeat (first | exact drawn_refl _ | refine drawn_step ?_ _))

set_option maxRecDepth 100000 in
set_option maxHeartbeats 1000000 in
theorem shape_bigs {α : Type} (k : Kd α) (ok : Nat → Prop) (A : Option Addr) (n c : Nat) (m : List (List α)) (w : World) (hn : n = m.length) (h : Row k.slice w ok A m) :
    Calls Try.prog 64 #[.slice A n c] w fun e w' => e = .returned (.tuple #[.int .i64 (rws m : Nat), .int .i64 (cls m : Nat), .bool (shp m)]) ∧ Drawn w w' := by
  refine veil fun R HP => ?_
  have hm := h.1
  rw [← hn] at hm
  have HR := Lib.hid h
  have HN := Lib.hid hn
  clear h hn
  have no := fun hs : shp m = false => HP.out (.returned (.tuple #[.int .i64 0, .int .i64 0, .bool false])) w ⟨by rw [rws, cls, hs]; rfl, drawn_refl w⟩
  have NO := Lib.hid no
  clear no
  by_cases h1 : n < 1
  · have D := Lib.hid (NO.out (shp_false m (by have := HN.out; omega)))
    go_enter Try.func64, Try.ntmps64
    go_wp2
    go_ret3
    exact D.out
  by_cases h2 : 16 < n
  · have D := Lib.hid (NO.out (shp_false m (by have := HN.out; omega)))
    go_enter Try.func64, Try.ntmps64
    go_wp2
    go_ret3
    exact D.out
  obtain ⟨ad, B, c0, rfl, hc0, hle, hcm, -⟩ := HR.out.sub (i := 0) (by have := HN.out; omega)
  have hc1 : w.cell? ad = some (.slice B (nth m 0).length c0) := hc0
  clear hc0
  obtain ⟨n0, hn0⟩ : ∃ n0, n0 = (nth m 0).length := ⟨_, rfl⟩
  rw [← hn0] at hc1 hle
  have HN0 := Lib.hid hn0
  clear hn0
  by_cases h3 : n0 < 1
  · have D := Lib.hid (NO.out (shp_false m (by have := HN.out; have := HN0.out; omega)))
    go_enter Try.func64, Try.ntmps64
    go_wp2
    go_ret3
    exact D.out
  by_cases h4 : 16 < n0
  · have D := Lib.hid (NO.out (shp_false m (by have := HN.out; have := HN0.out; omega)))
    go_enter Try.func64, Try.ntmps64
    go_wp2
    go_ret3
    exact D.out
  go_enter Try.func64, Try.ntmps64
  go_wp2
  go_loop [31] (fun i => ∃ j : Nat, j ≤ n ∧ i = .int .i64 (j : Int) ∧ Hid (∀ i, i < j → (nth m i).length = n0)) (fun i => n - (intOf i).toNat)
  case atStart => exact ⟨0, by omega, rfl, fun i hi => by omega⟩
  case round =>
    obtain ⟨j, hj, rfl, HI⟩ := hrel
    by_cases hlt : j < n
    · obtain ⟨ad', B', c', e, hc, hle', hcm', -⟩ := HR.out.sub (i := j) (by have := HN.out; omega)
      obtain rfl : ad = ad' := by injection e
      clear e
      obtain ⟨n1, hn1⟩ : ∃ n1, n1 = (nth m j).length := ⟨_, rfl⟩
      rw [← hn1] at hc hle'
      have HN1 := Lib.hid hn1
      clear hn1
      by_cases he : n1 = n0
      · have hb : ((n1 : Int) != (n0 : Int)) = false := by rw [bne_eq_false_iff_eq]; omega
        have HE := Lib.hid he
        clear he
        go_wp2
        go_round
        case rel => exact ⟨j + 1, by omega, by go_num, fun i hi => by
          by_cases g : i = j
          · subst g; rw [← HN1.out]; exact HE.out
          · exact HI.out i (by omega)⟩
        case measure => simp [intOf] <;> omega
      · have hb : ((n1 : Int) != (n0 : Int)) = true := by rw [bne_iff_ne]; omega
        have D := Lib.hid (NO.out (by
          simp only [shp, decide_eq_false_iff_not]
          rintro ⟨-, -, -, -, g⟩
          exact he (by rw [HN1.out, HN0.out]; exact g j (by have := HN.out; omega))))
        clear he
        go_wp2
        go_ret3
        exact D.out
    · have hsh : shp m = true := by
        simp only [shp, decide_eq_true_eq]
        have a1 := HN.out
        have a2 := HN0.out
        refine ⟨by omega, by omega, by omega, by omega, fun i hi => by rw [← a2]; exact HI.out i (by omega)⟩
      have D := Lib.hid (fun w' (hw : Drawn w w') => HP.out (.returned (.tuple #[.int .i64 (n : Int), .int .i64 (n0 : Int), .bool true])) w' ⟨by rw [rws, cls, hsh, if_pos rfl, if_pos rfl, ← HN.out, ← HN0.out], hw⟩)
      clear hsh
      go_wp2
      go_quiet (fail)
      go_wp2
      go_ret3
      exact D.out _ (by repeat (first | exact drawn_refl _ | refine drawn_step ?_ _))

theorem Shape_any {α : Type} (k : Kd α) (ok : Nat → Prop) (A : Option Addr) (n c : Nat) (m : List (List α)) (w : World) (hn : n = m.length) (h : Row k.slice w ok A m) :
    Calls Try.prog 49 #[.slice A n c] w fun e w' => e = .returned (.tuple #[.int .i64 (rws m : Nat), .int .i64 (cls m : Nat), .bool (shp m)]) ∧ Drawn w w' := by
  refine veil fun R HP => ?_
  have HR := Lib.hid h
  have HN := Lib.hid hn
  clear h hn
  go_enter Try.func49, Try.ntmps49
  go_wp2_with (go_at_call 64; with_reducible refine (shape_bigs k ok A n c m _ HN.out HR.out).mono ?_; rintro e w1 ⟨rfl, hw⟩; have HW := Lib.hid hw; clear hw)
  go_ret3
  exact HP.out _ _ ⟨rfl, HW.out⟩
end Go.Proofs.Ythibocafjkbeeaa
/-
  matrix.build: what it returns, for a function that returns a canonical integer at each place. Condition: at most 65536 rows and columns.
-/
namespace Go.Proofs.Ythibocafjkbeeaa
open Go.RowKit

/-- The matrix of a function. -/
def matOf (rows cols : Nat) (f : Nat → Nat → Int) : List (List Int) := (List.range rows).map fun i => (List.range cols).map fun j => f i j
theorem matOf_length (rows cols : Nat) (f : Nat → Nat → Int) : (matOf rows cols f).length = rows := by simp [matOf]
theorem nth_map_range {α : Type} [Inhabited α] (n i : Nat) (f : Nat → α) (h : i < n) : nth ((List.range n).map f) i = f i := by
  rw [nth_eq _ _ (by simpa using h)]; simp
theorem matOf_row (rows cols : Nat) (f : Nat → Nat → Int) (i : Nat) (h : i < rows) : nth (matOf rows cols f) i = (List.range cols).map fun j => f i j := nth_map_range _ _ _ h
theorem info_int : (Try.prog.info? 59).map (fun i => (i.zero, i.size, i.bytes)) = some (some (.agg #[.bool false, .slice none 0 0]), 2, 32) := by kernel_rfl
theorem info_bigs : (Try.prog.info? 89).map (fun i => (i.zero, i.size, i.bytes)) = some (some (.slice none 0 0), 1, 24) := by kernel_rfl
theorem make_n {P : Program} (t e : TypeId) (z : Value) (size bytes : Nat) (ht : P.underlying t = some (.slice e)) (hinfo : (P.info? e).map (fun i => (i.zero, i.size, i.bytes)) = some (some z, size, bytes)) (n : Nat) (hb : bytes * n ≤ 281474976710656) (h63 : n ≤ 9223372036854775807) (W : World) :
    (Instr.makeSlice t (.int .i64 (n : Int)) (.int .i64 (n : Int))).run P W = .ok (.slice (some ⟨W.heap.size, 0, none⟩) n n) (W.alloc (.cells (madeCells z.cells (n * size)) e)) := by
  obtain ⟨i, hi, hzz⟩ := Option.map_eq_some_iff.1 hinfo
  simp only [Prod.mk.injEq] at hzz
  obtain ⟨hz, hs, hbb⟩ := hzz
  have hb2 : (i.bytes : Int) * (n : Int) ≤ 281474976710656 := by rw [hbb, ← Int.natCast_mul]; omega
  have hr := run_make (P := P) W t e i z ht hi hz .i64 .i64 n n (by omega) (by omega) hb2 (by omega)
  simp only [Int.toNat_natCast] at hr
  rw [hs] at hr
  exact hr
/-- The rows that are done: i of them; they lie apart from block g0 and from block x. -/
def Done (w0 w : World) (ok : Nat → Prop) (g0 x cols : Nat) (f : Nat → Nat → Int) (vs : List Value) (i : Nat) : Prop :=
  ∀ k, k < i → ∃ A c, vs[k]? = some (.slice A cols c) ∧ cols ≤ c ∧ c ≤ 9223372036854775807 ∧ Row Kd.big w (fun b => Up ok w0.heap.size b ∧ b ≠ g0 ∧ b ≠ x) A ((List.range cols).map (f k))
theorem Done.move {w0 w w' : World} {ok : Nat → Prop} {g0 x y cols i : Nat} {f : Nat → Nat → Int} {vs vs' : List Value} (h : Done w0 w ok g0 x cols f vs i) (hv : ∀ k, k < i → vs'[k]? = vs[k]?)
    (hk : ∀ b, b < w.heap.size → b ≠ g0 → b ≠ x → w'.heap[b]? = w.heap[b]?) (hy : ∀ b, b < w.heap.size → b ≠ x → b ≠ y) : Done w0 w' ok g0 y cols f vs' i := by
  intro k hki
  obtain ⟨A, c, h1, h2, h3, h4⟩ := h k hki
  refine ⟨A, c, (hv k hki).trans h1, h2, h3, ?_⟩
  exact ((h4.weak (ok' := fun b => (Up ok w0.heap.size b ∧ b ≠ g0 ∧ b ≠ x) ∧ b < w.heap.size) fun b hb hl => ⟨hb, hl⟩).keep fun b hb _ => hk b hb.2 hb.1.2.1 hb.1.2.2).weak fun b hb _ => ⟨hb.1.1, hb.1.2.1, hy b hb.2 hb.1.2.2⟩
structure BuildO (w0 w : World) (ok : Nat → Prop) (rows cols : Nat) (f : Nat → Nat → Int) (i : Nat) (vs : List Value) : Prop where
  len : vs.length = rows
  own : Own w w0.heap.size 89 vs
  ext : Below w0.heap.size w0 w
  fin : Done w0 w ok w0.heap.size w0.heap.size cols f vs i
structure BuildI (w0 w : World) (ok : Nat → Prop) (rows cols : Nat) (f : Nat → Nat → Int) (i j g : Nat) (vs us : List Value) : Prop where
  len : vs.length = rows
  own : Own w w0.heap.size 89 vs
  ext : Below w0.heap.size w0 w
  fin : Done w0 w ok w0.heap.size g cols f vs i
  at_ : vs[i]? = some (.slice (some ⟨g, 0, none⟩) cols cols)
  ulen : us.length = cols * 2
  uown : Own w g 59 us
  gne : w0.heap.size < g
  els : ∀ l, l < j → ∃ cs, Kd.big.K w (fun b => Up ok w0.heap.size b ∧ b ≠ w0.heap.size ∧ b ≠ g) (f i l) cs ∧ ∀ q u, cs[q]? = some u → us[l * 2 + q]? = some u
theorem own_alloc_new (w : World) (T : TypeId) (cs : Array Value) : Own (w.alloc (.cells cs T)) w.heap.size T cs.toList := Own.new w T cs
theorem BuildO.start (w0 : World) (ok : Nat → Prop) (rows cols : Nat) (f : Nat → Nat → Int) : BuildO w0 (w0.alloc (.cells (madeCells #[.slice none 0 0] rows) 89)) ok rows cols f 0 (List.replicate rows (.slice none 0 0)) :=
  ⟨by simp, by have := Own.new w0 89 (madeCells #[.slice none 0 0] rows); rwa [made_toList] at this, ext_alloc (Below.refl _ _) _, fun k hk => by omega⟩
section
variable {w0 w w1 : World} {ok : Nat → Prop} {rows cols i j g : Nat} {f : Nat → Nat → Int} {vs us : List Value}
theorem heap_set {w : World} {p : Addr} {u : Value} (b : Nat) (h : b ≠ p.block) : (w.setCell p u).heap[b]? = w.heap[b]? := Below.heap_setCell w p u b h
theorem BuildO.inner (h : BuildO w0 w ok rows cols f i vs) (hi : i < rows) :
    BuildI w0 ((w.setCell ⟨w0.heap.size, i, none⟩ (.slice (some ⟨w.heap.size, 0, none⟩) cols cols)).alloc (.cells (madeCells #[.bool false, .slice none 0 0] (cols * 2)) 59)) ok rows cols f i 0 w.heap.size
      (vs.set i (.slice (some ⟨w.heap.size, 0, none⟩) cols cols)) (madeCells #[.bool false, .slice none 0 0] (cols * 2)).toList := by
  have hlt := h.own.lt
  have hsz : (w.setCell ⟨w0.heap.size, i, none⟩ (.slice (some ⟨w.heap.size, 0, none⟩) cols cols)).heap.size = w.heap.size := by simp [World.setCell]
  refine ⟨by rw [List.length_set]; exact h.len, (h.own.set_ i _).alloc _, ext_alloc (ext_set h.ext (Nat.le_refl _) _) _, ?_, ?_, by simp [size_madeCells], ?_, hlt, fun l hl => by omega⟩
  · refine Done.move h.fin (fun k hk => List.getElem?_set_ne (by omega)) (fun b hb h1 _ => ?_) (fun b hb _ => by omega)
    rw [Below.heap_alloc _ _ b (by rw [hsz]; exact hb), heap_set b h1]
  · rw [List.getElem?_set_self (by have := h.len; omega)]
  · have := Own.new (w.setCell ⟨w0.heap.size, i, none⟩ (.slice (some ⟨w.heap.size, 0, none⟩) cols cols)) 59 (madeCells #[.bool false, .slice none 0 0] (cols * 2))
    rwa [hsz] at this
theorem BuildI.outer (h : BuildI w0 w ok rows cols f i cols g vs us) (hok : ∀ b, ok b → b < w0.heap.size) (hc : cols ≤ 65536) : BuildO w0 w ok rows cols f (i + 1) vs := by
  refine ⟨h.len, h.own, h.ext, fun k hk => ?_⟩
  by_cases hki : k < i
  · obtain ⟨A, c, h1, h2, h3, h4⟩ := h.fin k hki
    exact ⟨A, c, h1, h2, h3, h4.weak fun b hb _ => ⟨hb.1, hb.2.1, hb.2.1⟩⟩
  · obtain rfl : k = i := by omega
    have hgne := h.gne
    have hg3 : Up ok w0.heap.size g ∧ g ≠ w0.heap.size ∧ g ≠ w0.heap.size := ⟨.inr (by omega), by omega, by omega⟩
    refine ⟨_, cols, h.at_, Nat.le_refl _, by omega, h.uown.row (k := Kd.big) _ (by simp; omega) hg3 fun l hl => ?_⟩
    simp at hl
    obtain ⟨cs, hK, hcs⟩ := h.els l hl
    refine ⟨cs, ?_, hcs⟩
    rw [List.getElem_map, List.getElem_range]
    exact Kd.big.weak hK fun b hb _ => ⟨hb.1, hb.2.1, hb.2.1⟩
theorem BuildO.row (h : BuildO w0 w ok rows cols f rows vs) (hr : rows ≤ 65536) : Row (Kd.slice Kd.big) w (Up ok w0.heap.size) (some ⟨w0.heap.size, 0, none⟩) (matOf rows cols f) := by
  refine h.own.row (k := Kd.slice Kd.big) _ (by rw [matOf_length]; omega) (.inr (Nat.le_refl _)) fun i hi => ?_
  rw [matOf_length] at hi
  obtain ⟨A, c, h1, h2, h3, h4⟩ := h.fin i hi
  have e : (matOf rows cols f)[i]'(by rw [matOf_length]; exact hi) = (List.range cols).map (f i) := by simp [matOf]
  refine ⟨[.slice A cols c], ?_, fun j u hu => ?_⟩
  · rw [e]
    exact ⟨A, c, by simp, by simpa using h2, h3, h4.weak fun b hb _ => hb.1⟩
  · cases j with
    | zero => rw [show i * (Kd.slice Kd.big).size + 0 = i from by simp [Kd.slice]]; rw [h1]; simpa using hu
    | succ j => simp at hu
theorem BuildI.ext1 (h : BuildI w0 w ok rows cols f i j g vs us) (hb : Below w.heap.size w w1) : BuildI w0 w1 ok rows cols f i j g vs us :=
  ⟨h.len, h.own.ext hb, ext_trans h.ext hb, Done.move h.fin (fun _ _ => rfl) (fun b hl _ _ => hb.block b hl) (fun b _ h => h), h.at_, h.ulen, h.uown.ext hb, h.gne, fun l hl => by
    obtain ⟨cs, hK, hcs⟩ := h.els l hl
    exact ⟨cs, Kd.big.keep hK fun b _ hl => hb.block b hl, hcs⟩⟩
theorem BuildI.store (h : BuildI w0 w1 ok rows cols f i j g vs us) (hok : ∀ b, ok b → b < w0.heap.size) (hj : j < cols) {B : Nat} (hB : w0.heap.size < B) (hgB : g < B) {x y : Value} (hv : Big w1 (Up ok B) (.agg #[x, y]) (f i j)) :
    BuildI w0 ((w1.setCell ⟨g, j * 2, none⟩ x).setCell ⟨g, j * 2 + 1, none⟩ y) ok rows cols f i (j + 1) g vs ((us.set (j * 2) x).set (j * 2 + 1) y) := by
  have hgne := h.gne
  have hkeep : ∀ b, b ≠ g → ((w1.setCell ⟨g, j * 2, none⟩ x).setCell ⟨g, j * 2 + 1, none⟩ y).heap[b]? = w1.heap[b]? := fun b hb => by rw [heap_set b hb, heap_set b hb]
  have hul := h.ulen
  refine ⟨h.len, (h.own.far (by simp; omega) _).far (by simp; omega) _, ext_set (ext_set h.ext (by simp; omega) _) (by simp; omega) _, Done.move h.fin (fun _ _ => rfl) (fun b hl h1 h2 => hkeep b h2) (fun b _ h => h), h.at_, by simpa using hul, (h.uown.set_ _ _).set_ _ _, hgne, fun l hl => ?_⟩
  by_cases hlj : l < j
  · obtain ⟨cs, hK, hcs⟩ := h.els l hlj
    refine ⟨cs, Kd.big.keep hK fun b hb _ => hkeep b hb.2.2, fun q u hu => ?_⟩
    have hq : q < 2 := by
      have := Kd.big.len hK
      have h2 : Kd.big.size = 2 := rfl
      rcases Nat.lt_or_ge q cs.length with g | g
      · omega
      · rw [List.getElem?_eq_none g] at hu; cases hu
    rw [List.getElem?_set_ne (by omega), List.getElem?_set_ne (by omega)]
    exact hcs q u hu
  · obtain rfl : l = j := by omega
    refine ⟨[x, y], Kd.big.keep (Kd.big.weak hv.K fun b hb hl => ?_) fun b hb _ => hkeep b hb.2.2, fun q u hu => ?_⟩
    · rcases hb with hb | hb
      · have := hok b hb
        exact ⟨.inl hb, by omega, by omega⟩
      · exact ⟨.inr (by omega), by omega, by omega⟩
    · rcases q with _ | _ | q
      · simp at hu
        subst hu
        rw [List.getElem?_set_ne (by omega), Nat.add_zero, List.getElem?_set_self (by omega)]
      · simp at hu
        subst hu
        rw [List.getElem?_set_self (by simp; omega)]
      · simp at hu
end
set_option maxRecDepth 100000 in
set_option maxHeartbeats 1000000 in
theorem build_any (ok : Nat → Prop) (F : FuncId) (p : Value) (f : Nat → Nat → Int) (rows cols : Nat) (w : World) (hr : rows ≤ 65536) (hc : cols ≤ 65536) (hok : ∀ b, ok b → b < w.heap.size) (hF : ∀ args W, (callFunc F args).run Try.prog W = .ok (.enter F args) W)
    (HF : ∀ (i j : Nat) (W : World), i < rows → j < cols → Below w.heap.size w W → Calls Try.prog F #[.int .i64 (i : Int), .int .i64 (j : Int), p] W fun e W' => ∃ v, Big W' (Up ok W.heap.size) v (f i j) ∧ e = .returned v ∧ Below W.heap.size W W') :
    Calls Try.prog 47 #[.int .i64 (rows : Int), .int .i64 (cols : Int), .func (.func F) #[] #[p]] w fun e w' => ∃ A, Row (Kd.slice Kd.big) w' (Up ok w.heap.size) A (matOf rows cols f) ∧ e = .returned (.slice A rows rows) ∧ Below w.heap.size w w' := by
  refine veil fun R HP => ?_
  have H := Lib.hid HF
  clear HF
  have mk1 : ∀ W : World, (Instr.makeSlice 65 (.int .i64 (rows : Int)) (.int .i64 (rows : Int))).run Try.prog W = .ok (.slice (some ⟨W.heap.size, 0, none⟩) rows rows) (W.alloc (.cells (madeCells #[.slice none 0 0] rows) 89)) := fun W => by
    have := make_n (P := Try.prog) 65 89 (.slice none 0 0) 1 24 Try.underlying65 info_bigs rows (by omega) (by omega) W
    rw [Nat.mul_one] at this
    exact this
  have mk2 := fun W => make_n (P := Try.prog) 89 59 (.agg #[.bool false, .slice none 0 0]) 2 32 Try.underlying89 info_int cols (by omega) (by omega) W
  go_enter Try.func47, Try.ntmps47
  have HOK := Lib.hid hok
  clear hok
  go_wp2
  clear mk1
  go_loopw [14] (fun i w' => ∃ (k : Nat) (vs : List Value), k ≤ rows ∧ i = .int .i64 (k : Int) ∧ BuildO w w' ok rows cols f k vs) (fun i _ => rows - (intOf i).toNat)
  case atStart => exact ⟨0, _, by omega, rfl, BuildO.start w ok rows cols f⟩
  case round =>
    obtain ⟨k, vs, hk, rfl, hO⟩ := hrel
    have HO := Lib.hid hO
    obtain ⟨wo, rfl⟩ : ∃ wo : World, wo = wr := ⟨_, rfl⟩
    clear hO
    by_cases hlt : k < rows
    · have c1 : ∃ u, wo.cell? ⟨w.heap.size, k, none⟩ = some u := ⟨_, by rw [HO.out.own.cell, List.getElem?_eq_getElem (by have := HO.out.len; omega)]⟩
      obtain ⟨u0, c1⟩ := c1
      have f1 := HO.out.own.free k
      have hz := HO.out.own.lt
      go_wp2
      clear mk2 c1 f1
      have HI0 := Lib.hid (HO.out.inner hlt)
      obtain ⟨g, hg⟩ : ∃ g, g = wo.heap.size := ⟨_, rfl⟩
      have HG := Lib.hid hg
      clear hg
      go_loopw [27] (fun i w' => ∃ (j : Nat) (vs us : List Value), j ≤ cols ∧ i = .int .i64 (j : Int) ∧ BuildI w w' ok rows cols f k j g vs us) (fun i _ => cols - (intOf i).toNat)
      case atStart => exact ⟨0, _, _, by omega, rfl, by rw [HG.out]; exact HI0.out⟩
      case round =>
        obtain ⟨j, vs2, us2, hj, rfl, hI⟩ := hrel
        have HI := Lib.hid hI
        clear hI
        by_cases hlt2 : j < cols
        · have c1 : wr.cell? ⟨w.heap.size, k, none⟩ = some (.slice (some ⟨g, 0, none⟩) cols cols) := by rw [HI.out.own.cell]; exact HI.out.at_
          go_wp2
          go_region_held3 (fun w' => w'.cell? ⟨w.heap.size, k, none⟩ = some (.slice (some ⟨g, 0, none⟩) cols cols))
            (first | exact (set_far (by simp; omega) (set_far (by simp; omega) c2)) | exact c2 | exact c1)
            (first | (refine (H.out k j _ hlt hlt2 (ext_drew HI.out.ext)).mono ?_; rintro e w1 ⟨v, ⟨A1, l1, d1, rfl, hv⟩, rfl, hb⟩; have HV := Lib.hid (show Big w1 (Up ok wr.heap.size) (.agg #[.bool (decide (f k j < 0)), .slice A1 l1 d1]) (f k j) from ⟨A1, l1, d1, rfl, hv⟩); have HI1 := Lib.hid (HI.out.ext1 (w1 := w1) ⟨hb.os, hb.tape, hb.output, hb.size, hb.block⟩); have c2 := kept (w := wr) (w1 := w1) ⟨hb.os, hb.tape, hb.output, hb.size, hb.block⟩ c1; obtain ⟨x0, x1⟩ : ∃ u, w1.cell? ⟨g, j * 2, none⟩ = some u := ⟨_, by rw [HI1.out.uown.cell, List.getElem?_eq_getElem (by have := HI1.out.ulen; omega)]⟩; obtain ⟨y0, y1⟩ : ∃ u, w1.cell? ⟨g, j * 2 + 1, none⟩ = some u := ⟨_, by rw [HI1.out.uown.cell, List.getElem?_eq_getElem (by have := HI1.out.ulen; omega)]⟩; have f1 := HI1.out.uown.free (j * 2); have f2 := HI1.out.uown.free (j * 2 + 1); have hgne := HI.out.gne; clear hb hv))
          go_wp2
          go_roundw
          case rel => exact ⟨j + 1, vs2, _, by omega, by go_num, HI1.out.store HOK.out hlt2 HI.out.own.lt HI.out.uown.lt HV.out⟩
          case measure => simp [intOf] <;> omega
        · obtain rfl : j = cols := by omega
          go_wp2
          go_roundw
          case rel => exact ⟨k + 1, vs2, by omega, by go_num, HI.out.outer HOK.out hc⟩
          case measure => simp [intOf] <;> omega
    · obtain rfl : k = rows := by omega
      go_wp2
      exact HP.out _ _ ⟨_, HO.out.row hr, rfl, HO.out.ext⟩
end Go.Proofs.Ythibocafjkbeeaa
/-
  matrix.FromInts: what it returns: the matrix of the integers, and whether the rows are a matrix. No condition but that the argument can be read.
-/
namespace Go.Proofs.Ythibocafjkbeeaa
open Go.RowKit

theorem Row.num {w : World} {ok : Nat → Prop} {A : Option Addr} {xs : List Int} (h : Row Kd.i64 w ok A xs) {i : Nat} (hi : i < xs.length) : ∃ ad, A = some ad ∧ w.cell? (ad.add i) = some (.int .i64 (nth xs i)) ∧ -9223372036854775808 ≤ nth xs i ∧ nth xs i ≤ 9223372036854775807 := by
  obtain ⟨ad, cs, e, _, _, ⟨rfl, h1, h2⟩, hc⟩ := h.at_ hi
  refine ⟨ad, e, ?_, h1, h2⟩
  have := hc 0 _ rfl
  simpa [Kd.i64] using this
theorem call_enter {P : Program} {f : FuncId} {fn : Func} (hf : P.funcs[f]? = some fn) (hname : (fn.name == "runtime.NumGoroutine") = false) (hb : fn.body.isNone = false) (args : Array Value) (w : World) : (callFunc f args).run P w = .ok (.enter f args) w := by
  have h1 : fn.name ≠ "runtime.NumGoroutine" := by simpa using hname
  cases h2 : fn.body with
  | none => rw [h2] at hb; cases hb
  | some c => simp [callFunc, hf, h1, h2]
set_option maxRecDepth 100000 in
set_option maxHeartbeats 1000000 in
theorem from_one (ok : Nat → Prop) (pb : Nat) (A : Option Addr) (n c : Nat) (l : List (List Int)) (i j : Nat) (w : World) (hn : n = l.length) (hp : w.cell? ⟨pb, 0, none⟩ = some (.slice A n c)) (h : Row Kd.i64.slice w ok A l) (hi : i < l.length) (hj : j < (nth l i).length) :
    Calls Try.prog 48 #[.int .i64 (i : Int), .int .i64 (j : Int), .pointer (some ⟨pb, 0, none⟩)] w fun e w' => ∃ v, Big w' (Up ok w.heap.size) v (nth (nth l i) j) ∧ e = .returned v ∧ Below w.heap.size w w' := by
  refine veil fun R HP => ?_
  have HR := Lib.hid h
  have HN := Lib.hid hn
  have hl := h.1
  obtain ⟨ad, B, d, rfl, c1, hd, -, hB⟩ := h.sub hi
  have hl2 := hB.1
  obtain ⟨bd, rfl, c2, x1, x2⟩ := hB.num hj
  obtain ⟨x, hx⟩ : ∃ x, x = nth (nth l i) j := ⟨_, rfl⟩
  obtain ⟨q, hq⟩ : ∃ q, q = (nth l i).length := ⟨_, rfl⟩
  rw [← hq] at c1 hd hj hl2
  rw [← hx] at c2 x1 x2 HP
  have i1 : (0 : Int) ≤ (i : Int) := by omega
  have i2 : (i : Int) < (n : Int) := by omega
  have j1 : (0 : Int) ≤ (j : Int) := by omega
  have j2 : (j : Int) < (q : Int) := by omega
  have O := Lib.hid (Own.new w 59 #[.bool false, .slice none 0 0])
  have B0 := Lib.hid (ext_alloc (Below.refl w.heap.size w) (.cells #[.bool false, .slice none 0 0] 59))
  replace hp := kept B0.out hp
  replace c1 := kept B0.out c1
  replace c2 := kept B0.out c2
  clear h hn hB hx hq
  go_enter Try.func48, Try.ntmps48
  go_wp2_with fail
  generalize w.alloc (.cells #[.bool false, .slice none 0 0] 59) = w0 at O B0 hp c1 c2 ⊢
  go_wp2_with fail
  with_reducible refine (Small_big ok x _ x1 x2).mono ?_
  rintro e w1 ⟨v, ⟨A4, l4, c4, rfl, hv⟩, rfl, hb⟩
  have Q4 := Lib.hid (And.intro hv.1 (And.intro hv.2.1 (And.intro hv.2.2.1 (hv.2.2.2.up2 B0.out))))
  have O4 := Lib.hid (O.out.ext hb)
  have B4 := Lib.hid (ext_trans B0.out hb)
  clear hb hv
  have r0 := O4.out.cell 0
  have r1 := O4.out.cell 1
  have f0 := O4.out.free 0
  have f1 := O4.out.free 1
  go_wp2
  refine bodyPost_ret (v := .agg #[.bool (decide (x < 0)), .slice A4 l4 c4]) (by simp [results, Try.results48, go_sem, r0, r1]) rfl (HP.out _ _ ⟨_, ?_, rfl, ?_⟩)
  · exact set_big (set_big ⟨A4, l4, c4, rfl, Q4.out⟩ r0 (fun x h => by cases h) _) (set_apart (by simp) r1) (fun x h => by cases h) _
  · exact ext_set (ext_set B4.out (by simp) _) (by simp) _

theorem from_enter (args : Array Value) (W : World) : (callFunc 48 args).run Try.prog W = .ok (.enter 48 args) W :=
  call_enter (fn := Try.f48) Try.func48 (by decide +kernel) rfl args W
/-- The matrix of a list of rows. -/
def mat (l : List (List Int)) : List (List Int) := matOf l.length (nth l 0).length fun i j => nth (nth l i) j
theorem shp_spec {α : Type} {m : List (List α)} (h : shp m = true) : 1 ≤ m.length ∧ m.length ≤ 16 ∧ 1 ≤ (nth m 0).length ∧ (nth m 0).length ≤ 16 ∧ ∀ i, i < m.length → (nth m i).length = (nth m 0).length := by simpa [shp] using h
set_option maxRecDepth 100000 in
set_option maxHeartbeats 1000000 in
theorem FromInts_any (ok : Nat → Prop) (A : Option Addr) (n c : Nat) (l : List (List Int)) (w : World) (hn : n = l.length) (h : Row Kd.i64.slice w ok A l) :
    Calls Try.prog 30 #[.slice A n c] w fun e w' => (if shp l = true then ∃ A, Row (Kd.slice Kd.big) w' (Up ok w.heap.size) A (mat l) ∧ e = .returned (.tuple #[.slice A n n, .bool true]) else e = .returned (.tuple #[.slice none 0 0, .bool false])) ∧ Below w.heap.size w w' := by
  refine veil fun R HP => ?_
  have HR := Lib.hid h
  have HN := Lib.hid hn
  have k1 : (w.alloc (.cells #[.slice A n c] 35)).cell? ⟨w.heap.size, 0, none⟩ = some (.slice A n c) := by simp
  have B0 := Lib.hid (ext_alloc (Below.refl w.heap.size w) (.cells #[.slice A n c] 35))
  have R0 := Lib.hid (h.alloc (.cells #[.slice A n c] 35))
  have K := Lib.hid k1
  clear h hn k1
  go_enter Try.func30, Try.ntmps30
  go_wp2_with fail
  with_reducible refine (shape_ints Kd.i64 ok A n c l _ HN.out R0.out).mono ?_
  rintro e w1 ⟨rfl, hw⟩
  have B1 := Lib.hid (ext_trans B0.out (drawn_ext hw))
  have K1 := Lib.hid (kept (drawn_ext hw) K.out)
  have R1 := Lib.hid (R0.out.ext (drawn_ext hw))
  clear hw
  rcases Bool.eq_false_or_eq_true (shp l) with hs | hs
  · have HS := Lib.hid (shp_spec hs)
    have hrw : rws l = n := by rw [rws, hs, if_pos rfl]; exact HN.out.symm
    have hcl : cls l = (nth l 0).length := by rw [cls, hs, if_pos rfl]
    have P2 := Lib.hid (fun A' (w' : World) hr hb => HP.out (.returned (.tuple #[.slice A' n n, .bool true])) w' ⟨by rw [if_pos hs]; exact ⟨A', hr, rfl⟩, hb⟩)
    rw [hrw, hcl, hs]
    clear hrw hcl hs
    go_wp2_with fail
    refine (build_any (fun b => ok b ∧ b < w1.heap.size) _ _ (fun i j => nth (nth l i) j) n (nth l 0).length w1 (by have := HS.out; have := HN.out; omega) (by have := HS.out; omega) (fun b hb => hb.2) from_enter (fun i j W hi hj hb => from_one _ w.heap.size A n c l i j W HN.out (kept hb K1.out) ((R1.out.weak fun b h hl => ⟨h, hl⟩).ext hb) (by have := HN.out; omega) (by rw [HS.out.2.2.2.2 i (by have := HN.out; omega)]; exact hj))).mono ?_
    rintro e w2 ⟨A2, hr2, rfl, hb⟩
    have Q2 := Lib.hid (show Row (Kd.slice Kd.big) w2 (Up ok w.heap.size) A2 (mat l) from by
      have := hr2.weak (ok' := Up ok w.heap.size) fun b h _ => h.elim (fun h => .inl h.1) fun h => .inr (Nat.le_trans B1.out.size h)
      rw [HN.out] at this
      exact this)
    have B2 := Lib.hid (ext_trans B1.out hb)
    clear hr2 hb
    go_wp2
    exact P2.out _ _ Q2.out B2.out
  · have hrw : rws l = 0 := by rw [rws, hs]; rfl
    have hcl : cls l = 0 := by rw [cls, hs]; rfl
    have P2 := Lib.hid (fun (w' : World) hb => HP.out (.returned (.tuple #[.slice none 0 0, .bool false])) w' ⟨by rw [if_neg (by rw [hs]; decide)], hb⟩)
    rw [hrw, hcl, hs]
    clear hrw hcl hs
    go_wp2
    exact P2.out _ B1.out
end Go.Proofs.Ythibocafjkbeeaa
/-
  bareiss.upTo and matrix.ascending: what they return. Condition: at most 65536 numbers.
-/
namespace Go.Proofs.Ythibocafjkbeeaa
open Go.RowKit

/-- The cells of whole numbers. -/
def ints (xs : List Int) : List Value := xs.map fun x : Int => .int .i64 x
theorem ints_length (xs : List Int) : (ints xs).length = xs.length := by simp [ints]
theorem ints_set (xs : List Int) (i : Nat) (x : Int) : (ints xs).set i (.int .i64 x) = ints (xs.set i x) := by simp [ints, List.map_set]
theorem ints_at (xs : List Int) (i : Nat) (h : i < xs.length) : (ints xs)[i]? = some (.int .i64 (nth xs i)) := by
  rw [ints, List.getElem?_map, nth_get? xs i h]; rfl
/-- All numbers are of 64 bits. -/
def In64 (xs : List Int) : Prop := ∀ x ∈ xs, -9223372036854775808 ≤ x ∧ x ≤ 9223372036854775807
theorem In64.nth {xs : List Int} (h : In64 xs) {i : Nat} (hi : i < xs.length) : -9223372036854775808 ≤ nth xs i ∧ nth xs i ≤ 9223372036854775807 := by
  rw [nth_eq xs i hi]; exact h _ (List.getElem_mem hi)
theorem In64.set_ {xs : List Int} (h : In64 xs) (i : Nat) {x : Int} (h1 : -9223372036854775808 ≤ x) (h2 : x ≤ 9223372036854775807) : In64 (xs.set i x) := fun y hy => by
  rcases List.mem_or_eq_of_mem_set hy with g | g
  · exact h y g
  · exact g ▸ ⟨h1, h2⟩
theorem Own.introw {w : World} {g : Nat} {T : TypeId} {xs : List Int} {ok : Nat → Prop} (h : Own w g T (ints xs)) (hx : In64 xs) (hl : xs.length ≤ 9223372036854775807) (hok : ok g) : Row Kd.i64 w ok (some ⟨g, 0, none⟩) xs :=
  h.row (k := Kd.i64) xs hl hok fun i hi => ⟨[.int .i64 xs[i]], ⟨rfl, hx _ (List.getElem_mem hi)⟩, fun j u hu => by
    cases j with
    | zero => rw [show i * Kd.i64.size + 0 = i from by simp [Kd.i64], ints_at xs i hi, nth_eq xs i hi]; simpa using hu
    | succ j => simp at hu⟩
/-- The numbers from 0 to k - 1. -/
def iota (k : Nat) : List Int := (List.range k).map fun i : Nat => (i : Int)
theorem iota_length (k : Nat) : (iota k).length = k := by simp [iota]
theorem nth_iota (k i : Nat) (h : i < k) : nth (iota k) i = (i : Int) := nth_map_range _ _ _ h
theorem info_i : (Try.prog.info? 3).map (fun i => (i.zero, i.size, i.bytes)) = some (some (.int .i64 0), 1, 8) := by kernel_rfl
set_option maxRecDepth 100000 in
set_option maxHeartbeats 1000000 in
theorem upTo_any (ok : Nat → Prop) (k : Nat) (w : World) (hk : k ≤ 65536) :
    Calls Try.prog 83 #[.int .i64 (k : Int)] w fun e w' => ∃ A, Row Kd.i64 w' (Up ok w.heap.size) A (iota k) ∧ e = .returned (.slice A k k) ∧ Below w.heap.size w w' := by
  refine veil fun R HP => ?_
  have hmk : ∀ W : World, (Instr.makeSlice 123 (.int .i64 (k : Int)) (.int .i64 (k : Int))).run Try.prog W = .ok (.slice (some ⟨W.heap.size, 0, none⟩) k k) (W.alloc (.cells (madeCells #[.int .i64 0] k) 3)) := fun W => by
    have := make_n (P := Try.prog) 123 3 (.int .i64 0) 1 8 Try.underlying123 info_i k (by omega) (by omega) W
    rwa [Nat.mul_one] at this
  go_enter Try.func83, Try.ntmps83
  go_wp2
  clear hmk
  go_loopw [9] (fun i w' => ∃ (j : Nat) (xs : List Int), j ≤ k ∧ i = .int .i64 (j : Int) ∧ Hid (xs.length = k ∧ Own w' w.heap.size 3 (ints xs) ∧ Below w.heap.size w w' ∧ In64 xs ∧ ∀ i, i < j → nth xs i = (i : Int))) (fun i _ => k - (intOf i).toNat)
  case atStart => exact ⟨0, List.replicate k 0, by omega, rfl, by simp, by
    have := Own.new w 3 (madeCells #[.int .i64 0] k)
    rw [made_toList] at this
    simpa [ints] using this, ext_alloc (Below.refl _ _) _, fun x hx => by rw [List.eq_of_mem_replicate hx]; omega, fun i hi => by omega⟩
  case round =>
    obtain ⟨j, xs, hj, rfl, HI⟩ := hrel
    by_cases hlt : j < k
    · have hcell : wr.cell? ⟨w.heap.size, j, none⟩ = some (.int .i64 (nth xs j)) := by rw [HI.out.2.1.cell, ints_at _ _ (by have := HI.out.1; omega)]
      have hfree := HI.out.2.1.free j
      go_wp2
      obtain ⟨h1, h2, h3, h4, h5⟩ := HI.out
      refine ⟨⟨j + 1, xs.set j (j : Int), by omega, rfl, by rw [List.length_set]; exact h1, by rw [← ints_set]; exact h2.set_ j _, ext_set h3 (Nat.le_refl _) _, h4.set_ j (by omega) (by omega), fun i hi => ?_⟩, by simp [intOf]; omega⟩
      by_cases e : i = j
      · subst e; rw [nth_eq _ _ (by rw [List.length_set]; omega)]; simp
      · rw [nth_set_other _ _ _ _ (by omega)]; exact h5 i (by omega)
    · obtain rfl : j = k := by omega
      have e : xs = iota j := by
        obtain ⟨h1, h2, h3, h4, h5⟩ := HI.out
        refine List.ext_getElem (by rw [h1, iota_length]) fun i hi hi2 => ?_
        have := h5 i (by omega)
        rw [nth_eq _ _ hi] at this
        rw [this]
        simp [iota]
      have E := Lib.hid e
      clear e
      go_wp2
      exact HP.out _ _ ⟨_, by rw [← E.out]; exact HI.out.2.1.introw HI.out.2.2.2.1 (by have := HI.out.1; omega) (.inr (Nat.le_refl _)), rfl, HI.out.2.2.1⟩

/-- 'ascending' of the numbers from 0 to k - 1 among n numbers. -/
theorem ascending_iota (ok : Nat → Prop) (A : Option Addr) (c k n : Nat) (w : World) (hk : k ≤ 65536) (h : Row Kd.i64 w ok A (iota k)) (h0 : 0 < k) (hn : k ≤ n) (hn2 : n ≤ 65536) :
    Calls Try.prog 90 #[.slice A k c, .int .i64 (n : Int)] w fun e w' => e = .returned (.bool true) ∧ w = w' := by
  refine veil fun R HP => ?_
  have HR := Lib.hid h
  clear h
  go_enter Try.func90, Try.ntmps90
  go_wp2
  go_loop [9] (fun i => ∃ j : Nat, j ≤ k ∧ i = .int .i64 (j : Int)) (fun i => k - (intOf i).toNat)
  case atStart => exact ⟨0, by omega, rfl⟩
  case round =>
    obtain ⟨j, hj, rfl⟩ := hrel
    by_cases hlt : j < k
    · obtain ⟨ad, rfl, c1, -, -⟩ := HR.out.num (i := j) (by rw [iota_length]; exact hlt)
      rw [nth_iota k j hlt] at c1
      have i1 : (0 : Int) ≤ (j : Int) := by omega
      have i2 : (j : Int) < (k : Int) := by omega
      have i3 : (j : Int) < (n : Int) := by omega
      rcases Nat.eq_zero_or_pos j with rfl | hj0
      · have c2 : w.cell? ad = some (.int .i64 0) := c1
        clear c1
        go_wp2
        go_round
        case rel => exact ⟨1, by omega, rfl⟩
        case measure => simp [intOf] <;> omega
      · obtain ⟨ad', e, c2, -, -⟩ := HR.out.num (i := j - 1) (by rw [iota_length]; omega)
        obtain rfl : ad = ad' := by injection e
        rw [nth_iota k (j - 1) (by omega)] at c2
        rw [show ((j - 1 : Nat) : Int) = (j : Int) - 1 from by omega] at c2
        clear e
        go_wp2
        go_round
        case rel => exact ⟨j + 1, by omega, by go_num⟩
        case measure => simp [intOf] <;> omega
    · obtain rfl : j = k := by omega
      go_wp2

      exact HP.out _ _ ⟨rfl, rfl⟩
end Go.Proofs.Ythibocafjkbeeaa
/-
  The function that matrix.Minor hands to build: what it returns. No condition but that the matrix can be read.
-/
namespace Go.Proofs.Ythibocafjkbeeaa
open Go.RowKit

theorem add_two (a : Addr) (n k : Nat) (h : 0 < k) : a.add (n + k) = ⟨(a.add n).block, (a.add n).off + k, none⟩ := by
  unfold Addr.add
  rw [if_neg (by omega)]
  split
  · rename_i h0; subst h0; simp
  · simp [Nat.add_assoc]
/-- Element i of a row of Ints. -/
theorem Row.bigAt {w : World} {ok : Nat → Prop} {A : Option Addr} {xs : List Int} (h : Row Kd.big w ok A xs) {i : Nat} (hi : i < xs.length) :
    ∃ ad B m c, A = some ad ∧ w.cell? (ad.add (i * 2)) = some (.bool (decide (nth xs i < 0))) ∧ w.cell? ⟨(ad.add (i * 2)).block, (ad.add (i * 2)).off + 1, none⟩ = some (.slice B m c) ∧ Big w ok (.agg #[.bool (decide (nth xs i < 0)), .slice B m c]) (nth xs i) := by
  obtain ⟨ad, cs, e, _, _, hK, hc⟩ := h.at_ hi
  obtain ⟨B, m, c, rfl, hb⟩ := big_of_K hK
  refine ⟨ad, B, m, c, e, hc 0 _ rfl, ?_, hb⟩
  rw [← add_two _ _ 1 (by omega)]
  exact hc 1 _ rfl
theorem all_kept8 {w w1 : World} (hb : Below w.heap.size w w1) {p1 p2 p3 p4 p5 p6 p7 p8 : Addr} {u1 u2 u3 u4 u5 u6 u7 u8 : Value} (h : w.cell? p1 = some u1 ∧ w.cell? p2 = some u2 ∧ w.cell? p3 = some u3 ∧ w.cell? p4 = some u4 ∧ w.cell? p5 = some u5 ∧ w.cell? p6 = some u6 ∧ w.cell? p7 = some u7 ∧ w.cell? p8 = some u8) :
    w1.cell? p1 = some u1 ∧ w1.cell? p2 = some u2 ∧ w1.cell? p3 = some u3 ∧ w1.cell? p4 = some u4 ∧ w1.cell? p5 = some u5 ∧ w1.cell? p6 = some u6 ∧ w1.cell? p7 = some u7 ∧ w1.cell? p8 = some u8 :=
  ⟨kept hb h.1, kept hb h.2.1, kept hb h.2.2.1, kept hb h.2.2.2.1, kept hb h.2.2.2.2.1, kept hb h.2.2.2.2.2.1, kept hb h.2.2.2.2.2.2.1, kept hb h.2.2.2.2.2.2.2⟩
set_option maxRecDepth 100000 in
set_option maxHeartbeats 1000000 in
theorem minor_one (ok : Nat → Prop) (p1 p2 p3 : Nat) (A B : Option Addr) (n c k d : Nat) (D : Option Addr) (d' : Nat) (m : List (List Int)) (i j : Nat) (w : World) (hn : n = m.length) (hp1 : w.cell? ⟨p1, 0, none⟩ = some (.slice A n c)) (hp2 : w.cell? ⟨p2, 0, none⟩ = some (.slice B k d)) (hp3 : w.cell? ⟨p3, 0, none⟩ = some (.slice D k d'))
    (h : Row Kd.big.slice w ok A m) (hB : Row Kd.i64 w ok B (iota k)) (hD : Row Kd.i64 w ok D (iota k)) (hi : i < k) (hj : j < k) (hk : k ≤ m.length) (hk2 : ∀ i, i < m.length → k ≤ (nth m i).length) :
    Calls Try.prog 92 #[.int .i64 (i : Int), .int .i64 (j : Int), .pointer (some ⟨p1, 0, none⟩), .pointer (some ⟨p2, 0, none⟩), .pointer (some ⟨p3, 0, none⟩)] w fun e w' => ∃ v, Big w' (Up ok w.heap.size) v (nth (nth m i) j) ∧ e = .returned v ∧ Below w.heap.size w w' := by
  refine veil fun R HP => ?_
  have hl := h.1
  obtain ⟨ad, E, e, rfl, c1, hd, -, hE⟩ := h.sub (i := i) (by omega)
  have hl2 := hE.1
  have hlen := hk2 i (by omega)
  obtain ⟨bd, E2, m2, e2, rfl, c2, c3, hv⟩ := hE.bigAt (i := j) (by omega)
  obtain ⟨b1, rfl, c4, -, -⟩ := hB.num (i := i) (by rw [iota_length]; exact hi)
  obtain ⟨b2, rfl, c5, -, -⟩ := hD.num (i := j) (by rw [iota_length]; exact hj)
  rw [nth_iota k i hi] at c4
  rw [nth_iota k j hj] at c5
  obtain ⟨x, hx⟩ : ∃ x, x = nth (nth m i) j := ⟨_, rfl⟩
  obtain ⟨q, hq⟩ : ∃ q, q = (nth m i).length := ⟨_, rfl⟩
  rw [← hq] at c1 hd hl2 hlen
  rw [← hx] at c2 hv HP
  have i1 : (0 : Int) ≤ (i : Int) := by omega
  have i2 : (i : Int) < (n : Int) := by omega
  have i3 : (i : Int) < (k : Int) := by omega
  have j1 : (0 : Int) ≤ (j : Int) := by omega
  have j2 : (j : Int) < (q : Int) := by omega
  have j3 : (j : Int) < (k : Int) := by omega
  have HV := Lib.hid hv
  have E0 := Lib.hid (And.intro hp1 (And.intro hp2 (And.intro hp3 (And.intro c1 (And.intro c2 (And.intro c3 (And.intro c4 c5)))))))
  have O := Lib.hid (Own.new w 59 #[.bool false, .slice none 0 0])
  have B0 := Lib.hid (ext_alloc (Below.refl w.heap.size w) (.cells #[.bool false, .slice none 0 0] 59))
  replace hp1 := kept B0.out hp1
  replace hp2 := kept B0.out hp2
  replace hp3 := kept B0.out hp3
  replace c1 := kept B0.out c1
  replace c2 := kept B0.out c2
  replace c3 := kept B0.out c3
  replace c4 := kept B0.out c4
  replace c5 := kept B0.out c5
  replace HV := Lib.hid (HV.out.ext B0.out)
  clear h hn hB hD hE hx hq hv hk hk2
  go_enter Try.func92, Try.ntmps92
  go_wp2_with fail
  generalize w.alloc (.cells #[.bool false, .slice none 0 0] 59) = w0 at O B0 hp1 hp2 hp3 c1 c2 c3 c4 c5 HV ⊢
  have r0 := O.out.cell 0
  have r1 := O.out.cell 1
  have f0 := O.out.free 0
  have f1 := O.out.free 1
  go_region_held3 (fun w' => w'.cell? ⟨p1, 0, none⟩ = some (.slice (some ad) n c) ∧ w'.cell? ⟨p2, 0, none⟩ = some (.slice (some b1) k d) ∧ w'.cell? ⟨p3, 0, none⟩ = some (.slice (some b2) k d') ∧ w'.cell? (ad.add i) = some (.slice (some bd) q e) ∧ w'.cell? (bd.add (j * 2)) = some (.bool (decide (x < 0))) ∧ w'.cell? ⟨(bd.add (j * 2)).block, (bd.add (j * 2)).off + 1, none⟩ = some (.slice E2 m2 e2) ∧ w'.cell? (b1.add i) = some (.int .i64 (i : Int)) ∧ w'.cell? (b2.add j) = some (.int .i64 (j : Int)))
    (first | exact ⟨hp1, hp2, hp3, c1, c2, c3, c4, c5⟩ | exact all_kept8 (ext_set (ext_set (ext_drew B0.out) (by simp) _) (by simp) _) E0.out)
    (fail)
  go_wp2
  refine bodyPost_ret (v := .agg #[.bool (decide (x < 0)), .slice E2 m2 e2]) (by simp [results, Try.results92, go_sem, r0, r1]) rfl (HP.out _ _ ⟨_, ?_, rfl, ?_⟩)
  · exact set_big (set_big (HV.out.weak fun b h _ => .inl h) r0 (fun x h => by cases h) _) (set_apart (by simp) r1) (fun x h => by cases h) _
  · exact ext_set (ext_set (ext_drew B0.out) (by simp) _) (by simp) _
end Go.Proofs.Ythibocafjkbeeaa
/-
  Elimination without fractions on matrices that are functions of two indexes: plain numbers. No condition.
-/
namespace Go.Proofs.Ythibocafjkbeeaa

/-- The first row from p on (d rows are left) with an entry in column k that is not 0; behind the last row if there is none. -/
def firstRow (M : Nat → Nat → Int) (k : Nat) : Nat → Nat → Nat
  | 0, p => p
  | d + 1, p => if M p k = 0 then firstRow M k d (p + 1) else p
def swp (M : Nat → Nat → Int) (p k : Nat) : Nat → Nat → Int := fun i j => M (if i = p then k else if i = k then p else i) j
def elm (M : Nat → Nat → Int) (k : Nat) (last : Int) : Nat → Nat → Int := fun i j => if k < i ∧ k < j then (M k k * M i j - M i k * M k j) / last else M i j
/-- The determinant by elimination, from column k on (d columns are left). -/
def detRun : Nat → Nat → (Nat → Nat → Int) → Int → Bool → Int
  | 0, _, _, last, odd => if odd = true then -last else last
  | d + 1, k, M, last, odd =>
    let p := firstRow M k (d + 1) k
    if p = k + (d + 1) then 0 else
      let M1 := if p = k then M else swp M p k
      detRun d (k + 1) (elm M1 k last) (M1 k k) (if p = k then odd else !odd)
/-- All numbers of the elimination are among those that are spoken of. -/
def DetOk (n : Nat) : Nat → Nat → (Nat → Nat → Int) → Int → Prop
  | 0, _, _, last => Sm last
  | d + 1, k, M, last =>
    last ≠ 0 ∧ Sm last ∧ (∀ i j, i < n → j < n → Sm (M i j)) ∧
      (firstRow M k (d + 1) k ≠ k + (d + 1) →
        let M1 := if firstRow M k (d + 1) k = k then M else swp M (firstRow M k (d + 1) k) k
        (∀ i j, k < i → i < n → k < j → j < n → Sm (M1 k k * M1 i j) ∧ Sm (M1 i k * M1 k j) ∧ Sm (M1 k k * M1 i j - M1 i k * M1 k j) ∧ DivCan (M1 k k * M1 i j - M1 i k * M1 k j).natAbs last.natAbs) ∧
        DetOk n d (k + 1) (elm M1 k last) (M1 k k))
theorem firstRow_range (M : Nat → Nat → Int) (k : Nat) : ∀ d p, p ≤ firstRow M k d p ∧ firstRow M k d p ≤ p + d
  | 0, p => ⟨Nat.le_refl _, Nat.le_refl _⟩
  | d + 1, p => by
    have := firstRow_range M k d (p + 1)
    unfold firstRow
    split <;> omega
theorem firstRow_spec (M : Nat → Nat → Int) (k : Nat) : ∀ d p, firstRow M k d p < p + d → M (firstRow M k d p) k ≠ 0
  | 0, p, h => by simp [firstRow] at h
  | d + 1, p, h => by
    unfold firstRow at h ⊢
    split
    · rename_i h0
      rw [if_pos h0] at h
      exact firstRow_spec M k d (p + 1) (by omega)
    · rename_i h0; exact h0
/-- The matrix in the midst of a stage: the rows before i, and row i before column j, are done. -/
def elmP (M : Nat → Nat → Int) (k : Nat) (last : Int) (i j : Nat) : Nat → Nat → Int := fun a b => if k < a ∧ k < b ∧ (a < i ∨ a = i ∧ b < j) then (M k k * M a b - M a k * M k b) / last else M a b
end Go.Proofs.Ythibocafjkbeeaa
/-
  A matrix of Ints in memory of the call's own, that is written: what it holds, and how that lives on. No condition: plain definitions and theorems.
-/
namespace Go.Proofs.Ythibocafjkbeeaa
open Go.RowKit

/-- Block g holds the rows' slices (the first r of n rows are made); row k is block gs k, with n Ints. -/
structure Mx (w : World) (B0 : Nat) (Q : Nat → Prop) (g n r : Nat) (gs : Nat → Nat) (M : Nat → Nat → Int) : Prop where
  out : Own w g 89 ((List.range n).map fun k => if k < r then .slice (some ⟨gs k, 0, none⟩) n n else .slice none 0 0)
  rows : ∀ k, k < r → ∃ us, us.length = n * 2 ∧ Own w (gs k) 59 us ∧ ∀ l, l < n → ∃ x y, us[l * 2]? = some x ∧ us[l * 2 + 1]? = some y ∧ Big w Q (.agg #[x, y]) (M k l)
  inj : ∀ k l, k < r → l < r → gs k = gs l → k = l
  ne : ∀ k, k < r → gs k ≠ g
  lo : B0 ≤ g
  los : ∀ k, k < r → B0 ≤ gs k
section
variable {w w' : World} {B0 g n r : Nat} {Q : Nat → Prop} {gs : Nat → Nat} {M : Nat → Nat → Int}
theorem range_get (n i : Nat) (f : Nat → Value) (h : i < n) : ((List.range n).map f)[i]? = some (f i) := by simp [h]
theorem Mx.at_ (h : Mx w B0 Q g n r gs M) {k : Nat} (hk : k < r) (hn : k < n) : w.cell? ⟨g, k, none⟩ = some (.slice (some ⟨gs k, 0, none⟩) n n) := by
  rw [h.out.cell, range_get _ _ _ hn, if_pos hk]
theorem Mx.el (h : Mx w B0 Q g n r gs M) {i j : Nat} (hi : i < r) (hj : j < n) : ∃ B m c, w.cell? ⟨gs i, j * 2, none⟩ = some (.bool (decide (M i j < 0))) ∧ w.cell? ⟨gs i, j * 2 + 1, none⟩ = some (.slice B m c) ∧ Big w Q (.agg #[.bool (decide (M i j < 0)), .slice B m c]) (M i j) := by
  obtain ⟨us, _, ho, he⟩ := h.rows i hi
  obtain ⟨x, y, h1, h2, hb⟩ := he j hj
  have hb' := hb
  obtain ⟨A, m, c, e, h3⟩ := hb'
  simp only [Value.agg.injEq] at e
  have e1 : x = .bool (decide (M i j < 0)) := by injection congrArg (fun a : Array Value => a[0]?) e
  have e2 : y = .slice A m c := by injection congrArg (fun a : Array Value => a[1]?) e
  subst e1 e2
  exact ⟨A, m, c, by rw [ho.cell]; exact h1, by rw [ho.cell]; exact h2, hb⟩
theorem Mx.free (h : Mx w B0 Q g n r gs M) {i : Nat} (hi : i < r) (o : Nat) : w.frozen? ⟨gs i, o, none⟩ = false := by
  obtain ⟨us, _, ho, _⟩ := h.rows i hi
  exact ho.free o
theorem Mx.ext (h : Mx w B0 Q g n r gs M) (hb : Below w.heap.size w w') : Mx w' B0 Q g n r gs M :=
  ⟨h.out.ext hb, fun k hk => by
    obtain ⟨us, h1, h2, h3⟩ := h.rows k hk
    refine ⟨us, h1, h2.ext hb, fun l hl => ?_⟩
    obtain ⟨x, y, e1, e2, hB⟩ := h3 l hl
    exact ⟨x, y, e1, e2, hB.ext hb⟩, h.inj, h.ne, h.lo, h.los⟩
/-- A store elsewhere, over a cell that is no limb. -/
theorem Mx.other (h : Mx w B0 Q g n r gs M) {p : Addr} {v0 : Value} (c : w.cell? p = some v0) (hv : ∀ x, v0 ≠ .int .u32 x) (h1 : p.block ≠ g) (h2 : ∀ k, k < r → p.block ≠ gs k) (u : Value) : Mx (w.setCell p u) B0 Q g n r gs M :=
  ⟨h.out.far (Ne.symm h1) u, fun k hk => by
    obtain ⟨us, e1, e2, e3⟩ := h.rows k hk
    refine ⟨us, e1, e2.far (Ne.symm (h2 k hk)) u, fun l hl => ?_⟩
    obtain ⟨x, y, f1, f2, hB⟩ := e3 l hl
    exact ⟨x, y, f1, f2, set_big hB c hv u⟩, h.inj, h.ne, h.lo, h.los⟩
/-- An element is stored. -/
theorem Mx.store (h : Mx w B0 Q g n r gs M) {i j : Nat} (hi : i < r) (hj : j < n) {x y : Value} {z : Int} (hz : Big w Q (.agg #[x, y]) z) :
    Mx ((w.setCell ⟨gs i, j * 2, none⟩ x).setCell ⟨gs i, j * 2 + 1, none⟩ y) B0 Q g n r gs (fun a b => if a = i ∧ b = j then z else M a b) := by
  obtain ⟨B, m, c, c1, c2, hb⟩ := h.el hi hj
  have big2 : ∀ {v : Value} {t : Int}, Big w Q v t → Big ((w.setCell ⟨gs i, j * 2, none⟩ x).setCell ⟨gs i, j * 2 + 1, none⟩ y) Q v t := fun hB =>
    set_big (set_big hB c1 (fun x h => by cases h) _) (set_apart (by simp) c2) (fun x h => by cases h) _
  refine ⟨(h.out.far (Ne.symm (h.ne i hi)) _).far (Ne.symm (h.ne i hi)) _, fun k hk => ?_, h.inj, h.ne, h.lo, h.los⟩
  obtain ⟨us, e1, e2, e3⟩ := h.rows k hk
  by_cases hki : k = i
  · subst hki
    refine ⟨(us.set (j * 2) x).set (j * 2 + 1) y, by simpa using e1, (e2.set_ _ _).set_ _ _, fun l hl => ?_⟩
    by_cases hlj : l = j
    · subst hlj
      refine ⟨x, y, ?_, ?_, by rw [if_pos ⟨rfl, rfl⟩]; exact big2 hz⟩
      · rw [List.getElem?_set_ne (by omega), List.getElem?_set_self (by omega)]
      · rw [List.getElem?_set_self (by simp; omega)]
    · obtain ⟨a, b, f1, f2, hB⟩ := e3 l hl
      refine ⟨a, b, ?_, ?_, by rw [if_neg (fun h => hlj h.2)]; exact big2 hB⟩
      · rw [List.getElem?_set_ne (by omega), List.getElem?_set_ne (by omega)]; exact f1
      · rw [List.getElem?_set_ne (by omega), List.getElem?_set_ne (by omega)]; exact f2
  · have hne : gs k ≠ gs i := fun e => hki (h.inj k i hk hi e)
    refine ⟨us, e1, (e2.far hne _).far hne _, fun l hl => ?_⟩
    obtain ⟨a, b, f1, f2, hB⟩ := e3 l hl
    exact ⟨a, b, f1, f2, by rw [if_neg (fun h => hki h.1)]; exact big2 hB⟩
/-- Two rows are exchanged. -/
theorem Mx.swap (h : Mx w B0 Q g n n gs M) {p k : Nat} (hp : p < n) (hk : k < n) (hpk : p ≠ k) :
    Mx ((w.setCell ⟨g, p, none⟩ (.slice (some ⟨gs k, 0, none⟩) n n)).setCell ⟨g, k, none⟩ (.slice (some ⟨gs p, 0, none⟩) n n)) B0 Q g n n (fun i => gs (if i = p then k else if i = k then p else i)) (swp M p k) := by
  have c1 := h.at_ hp hp
  have c2 := h.at_ hk hk
  have hlt : ∀ i, i < n → (if i = p then k else if i = k then p else i) < n := fun i hi => by split <;> (try split) <;> omega
  refine ⟨?_, fun i hi => ?_, fun i j hi hj e => ?_, fun i hi => h.ne _ (hlt i hi), h.lo, fun i hi => h.los _ (hlt i hi)⟩
  · have := (h.out.set_ p (.slice (some ⟨gs k, 0, none⟩) n n)).set_ k (.slice (some ⟨gs p, 0, none⟩) n n)
    refine cast (congrArg (Own _ g _) ?_) this
    refine List.ext_getElem? fun i => ?_
    by_cases hi : i < n
    · rw [range_get _ _ _ hi, if_pos hi]
      by_cases h1 : i = k
      · subst h1
        rw [List.getElem?_set_self (by simp; omega), if_neg (Ne.symm hpk), if_pos rfl]
      · rw [List.getElem?_set_ne (Ne.symm h1)]
        by_cases h2 : i = p
        · subst h2
          rw [List.getElem?_set_self (by simp; omega), if_pos rfl]
        · rw [List.getElem?_set_ne (Ne.symm h2), range_get _ _ _ hi, if_pos hi, if_neg h2, if_neg h1]
    · rw [List.getElem?_eq_none (by simp; omega), List.getElem?_eq_none (by simp; omega)]
  · obtain ⟨us, e1, e2, e3⟩ := h.rows _ (hlt i hi)
    have hne := h.ne _ (hlt i hi)
    refine ⟨us, e1, (e2.far hne _).far hne _, fun l hl => ?_⟩
    obtain ⟨a, b, f1, f2, hB⟩ := e3 l hl
    exact ⟨a, b, f1, f2, set_big (set_big hB c1 (fun x h => by cases h) _) (set_apart (by simp <;> omega) c2) (fun x h => by cases h) _⟩
  · have := h.inj _ _ (hlt i hi) (hlt j hj) e
    repeat' split at this
    all_goals omega
theorem Mx.start (w : World) (B0 : Nat) (Q : Nat → Prop) (n : Nat) (hB : B0 ≤ w.heap.size) (gs : Nat → Nat) (M : Nat → Nat → Int) : Mx (w.alloc (.cells (madeCells #[.slice none 0 0] n) 89)) B0 Q w.heap.size n 0 gs M :=
  ⟨by
    have := Own.new w 89 (madeCells #[.slice none 0 0] n)
    rw [made_toList] at this
    refine cast (congrArg (Own _ _ _) ?_) this
    refine List.ext_getElem (by simp) fun i h1 h2 => by simp, fun k hk => by omega, fun k l hk => by omega, fun k hk => by omega, hB, fun k hk => by omega⟩
/-- A row is made and filled: block x holds the cells 'us' in w'. -/
theorem Mx.add (h : Mx w B0 Q g n r gs M) (hr : r < n) {x : Nat} (hx : w.heap.size = x) (hBx : B0 ≤ x) {us : List Value} (hg : w'.heap[g]? = (w.setCell ⟨g, r, none⟩ (.slice (some ⟨x, 0, none⟩) n n)).heap[g]?)
    (hk : ∀ b, b < w.heap.size → b ≠ g → w'.heap[b]? = w.heap[b]?) (hl : us.length = n * 2) (ho : Own w' x 59 us)
    (he : ∀ l, l < n → ∃ a b, us[l * 2]? = some a ∧ us[l * 2 + 1]? = some b ∧ Big w' Q (.agg #[a, b]) (M r l)) (hbig : ∀ v z, Big w Q v z → Big w' Q v z) :
    Mx w' B0 Q g n (r + 1) (fun k => if k = r then x else gs k) M := by
  have hlt : ∀ k, k < r → gs k < w.heap.size := fun k hk => by
    obtain ⟨us, _, h2, _⟩ := h.rows k hk
    exact h2.lt
  refine ⟨?_, fun k hk' => ?_, fun k l hk' hl' e => ?_, fun k hk' => ?_, h.lo, fun k hk' => ?_⟩
  · have := (h.out.set_ r (.slice (some ⟨x, 0, none⟩) n n)).keep hg
    refine cast (congrArg (Own _ _ _) ?_) this
    refine List.ext_getElem? fun i => ?_
    by_cases hi : i < n
    · rw [range_get _ _ _ hi]
      by_cases h1 : i = r
      · subst h1
        rw [List.getElem?_set_self (by simp; omega), if_pos (by omega), if_pos rfl]
      · rw [List.getElem?_set_ne (Ne.symm h1), range_get _ _ _ hi, if_neg h1]
        by_cases h2 : i < r
        · rw [if_pos h2, if_pos (by omega)]
        · rw [if_neg h2, if_neg (by omega)]
    · rw [List.getElem?_eq_none (by simp; omega), List.getElem?_eq_none (by simp; omega)]
  · by_cases h1 : k = r
    · subst h1
      rw [if_pos rfl]
      exact ⟨us, hl, ho, he⟩
    · rw [if_neg h1]
      obtain ⟨us', e1, e2, e3⟩ := h.rows k (by omega)
      refine ⟨us', e1, e2.keep (hk _ e2.lt (h.ne k (by omega))), fun l hl => ?_⟩
      obtain ⟨a, b, f1, f2, f3⟩ := e3 l hl
      exact ⟨a, b, f1, f2, hbig _ _ f3⟩
  · have key : ∀ k, k < r → gs k ≠ x := fun k hk => by have := hlt k hk; omega
    by_cases h1 : k = r <;> by_cases h2 : l = r
    · omega
    · rw [if_pos h1, if_neg h2] at e
      exact absurd e.symm (key l (by omega))
    · rw [if_neg h1, if_pos h2] at e
      exact absurd e (key k (by omega))
    · rw [if_neg h1, if_neg h2] at e
      exact h.inj k l (by omega) (by omega) e
  · have := h.out.lt
    split
    · omega
    · exact h.ne k (by omega)
  · split
    · exact hBx
    · exact h.los k (by omega)
end
/-- copy of whole rows of elements of several cells. -/
theorem run_copy_full {P : Program} (w : World) (dT sT ty elem : TypeId) (size : Nat) (g n dCap : Nat) (a : Addr) (sCap : Nat) (cur : Array Value) (t : TypeId) (cs : List Value) (hu : P.underlying dT = some (.slice elem)) (hs : (P.info? elem).map (·.size) = some size)
    (hg : w.heap[g]? = some (.cells cur t (0, 0))) (hn : cs.length = n * size) (hsrc : ∀ j v, cs[j]? = some v → w.cell? (a.add j) = some v) (hfit : cs.length = cur.size) (h1 : ∀ v ∈ cs, v.oneCell' = true) :
    (Builtin.copy_ #[dT, sT] ty #[.slice (some ⟨g, 0, none⟩) n dCap, .slice (some a) n sCap]).run P w = .ok (.int .i64 (n : Int)) (w.setRow g cs.toArray) := by
  have hl := run_loadCells_list (P := P) w a cs hsrc
  have hst := run_storeCells_at P g 0 t cs 0 cur w hg (by simpa using Nat.le_of_eq hfit) h1
  rw [show cur.toList.take (0 + 0) ++ cs ++ cur.toList.drop (0 + 0 + cs.length) = cs from by rw [List.drop_of_length_le (by simp; omega)]; simp] at hst
  cases hq : P.info? elem with
  | none => simp [hq] at hs
  | some i =>
    have hi : i.size = size := by simpa [hq] using hs
    have hmin : Nat.min n n = n := Nat.min_self n
    rw [hn] at hl
    simp [Builtin.copy_, run_underlying hu, Builtin.lenOf, Builtin.firstCells, sizeOf, typeInfo, hq, hi, hmin, hl, hst, goInt]
end Go.Proofs.Ythibocafjkbeeaa
