/-
  integer.compare, integer.Sign and integer.Cmp: what they return for canonical numbers. No condition but that their arguments can be read.
-/
import Derived.Test.YthibocafjkbeeaaPart01
import Derived.Outline
set_option linter.unusedVariables false
set_option linter.unusedSimpArgs false
namespace Go.Proofs.Ythibocafjkbeeaa
open Go.RowKit

theorem ord_lt {m n : Int} (h : m < n) : ord m n = -1 := by simp [ord, h]
theorem ord_gt {m n : Int} (h : n < m) : ord m n = 1 := by rw [ord, if_neg (by omega), if_pos h]
theorem ord_eq (m : Int) : ord m m = 0 := by simp [ord]

set_option maxHeartbeats 400000 in
theorem compare_any (ok : Nat → Prop) (A B : Option Addr) (c d m n : Nat) (la lb : Nat) (w : World) (ha : la = (dig m).length) (hb : lb = (dig n).length) (hA : Row Kd.u32 w ok A (dig m)) (hB : Row Kd.u32 w ok B (dig n)) :
    Calls Try.prog 55 #[.slice A la c, .slice B lb d] w fun e w' => e = .returned (.int .i64 (ord m n)) ∧ Drawn w w' := by
  refine veil fun R HP => ?_
  have h1 := hA.1
  have h2 := hB.1
  rw [← ha] at h1
  rw [← hb] at h2
  have HA := Lib.hid hA
  have HB := Lib.hid hB
  have EA := Lib.hid ha
  have EB := Lib.hid hb
  clear hA hB ha hb
  by_cases hne : la = lb
  · subst hne
    go_enter Try.func55, Try.ntmps55
    go_wp2
    go_loopw [5] (fun i w' => ∃ k : Nat, k ≤ la ∧ i = .int .i64 ((k : Int) - 1) ∧ Hid (val ((dig m).drop k) = val ((dig n).drop k)) ∧ Drawn w w') (fun i _ => (intOf i + 1).toNat)
    case atStart => exact ⟨la, by omega, rfl, by rw [EA.out, List.drop_of_length_le (by omega), ← EA.out, EB.out, List.drop_of_length_le (by omega)]; exact rfl, drawn_refl w⟩
    case round =>
      obtain ⟨k, hk, rfl, HD, ⟨q, rfl⟩⟩ := hrel
      by_cases h0 : 0 < k
      · obtain ⟨k, rfl⟩ : ∃ j, k = j + 1 := ⟨k - 1, by omega⟩
        have hka : k < (dig m).length := by have := EA.out; omega
        have hkb : k < (dig n).length := by have := EB.out; omega
        obtain ⟨ad, rfl, c1, l1⟩ := HA.out.limb hka
        obtain ⟨bd, rfl, c2, l2⟩ := HB.out.limb hkb
        have HD1 := Lib.hid (val_drop_succ _ _ hka)
        have HD2 := Lib.hid (val_drop_succ _ _ hkb)
        have HL := Lib.hid HA.out.limbs_lt
        have HL2 := Lib.hid HB.out.limbs_lt
        have i1 : (0 : Int) ≤ (k : Int) := by omega
        have i2 : (k : Int) < (la : Int) := by have := EA.out; omega
        rw [show (((k + 1 : Nat) : Int) - 1) = (k : Int) from by omega]
        rcases Nat.lt_trichotomy (nth (dig m) k) (nth (dig n) k) with hlt | heq | hgt
        · have b1 : (((nth (dig m) k : Nat) : Int) != ((nth (dig n) k : Nat) : Int)) = true := by rw [bne_iff_ne]; omega
          have D := Lib.hid (show ∀ w', Drawn w w' → R (.returned (.int .i64 (-1))) w' from fun w' hw => HP.out _ _ ⟨by
            have := val_lt_of_top _ _ HL.out k hka hkb HD.out hlt
            rw [val_dig, val_dig] at this
            rw [ord_lt (by omega)], hw⟩)
          go_wp2
          go_quiet (fail)
          go_wp2
          go_quiet (fail)
          go_wp2
          exact D.out _ (by repeat (first | exact drawn_refl _ | refine drawn_step ?_ _))
        · have b1 : (((nth (dig m) k : Nat) : Int) != ((nth (dig n) k : Nat) : Int)) = false := by rw [bne_eq_false_iff_eq]; omega
          have HD' : Hid (val ((dig m).drop k) = val ((dig n).drop k)) := Lib.hid (by rw [HD1.out, HD2.out, HD.out, heq])
          clear heq
          go_wp2
          go_quiet (fail)
          go_wp2
          go_roundw
          case rel => exact ⟨k, by omega, rfl, HD', by repeat (first | exact drawn_refl _ | refine drawn_step ?_ _)⟩
          case measure => simp [intOf] <;> omega
        · have b1 : (((nth (dig m) k : Nat) : Int) != ((nth (dig n) k : Nat) : Int)) = true := by rw [bne_iff_ne]; omega
          have b2 : ¬ (nth (dig m) k < nth (dig n) k) := by omega
          have D := Lib.hid (show ∀ w', Drawn w w' → R (.returned (.int .i64 1)) w' from fun w' hw => HP.out _ _ ⟨by
            have := val_lt_of_top _ _ HL2.out k hkb hka HD.out.symm hgt
            rw [val_dig, val_dig] at this
            rw [ord_gt (by omega)], hw⟩)
          go_wp2
          go_quiet (fail)
          go_wp2
          go_quiet (fail)
          go_wp2
          exact D.out _ (by repeat (first | exact drawn_refl _ | refine drawn_step ?_ _))
      · obtain rfl : k = 0 := by omega
        have D := Lib.hid (show ∀ w', Drawn w w' → R (.returned (.int .i64 0)) w' from fun w' hw => HP.out _ _ ⟨by
          have := HD.out
          simp only [List.drop_zero, val_dig] at this
          rw [this, ord_eq], hw⟩)
        go_wp2
        exact D.out _ (by repeat (first | exact drawn_refl _ | refine drawn_step ?_ _))
  · have b0 : ((la : Int) != (lb : Int)) = true := by rw [bne_iff_ne]; omega
    rcases Nat.lt_or_ge la lb with hlt | hge
    · have D := Lib.hid (show R (.returned (.int .i64 (-1))) w from HP.out _ _ ⟨by
        have := dig_len_lt m n (by have := EA.out; have := EB.out; omega)
        rw [ord_lt (by omega)], drawn_refl w⟩)
      go_enter Try.func55, Try.ntmps55
      go_wp2
      exact D.out
    · have D := Lib.hid (show R (.returned (.int .i64 1)) w from HP.out _ _ ⟨by
        have := dig_len_lt n m (by have := EA.out; have := EB.out; omega)
        rw [ord_gt (by omega)], drawn_refl w⟩)
      have hge' : ¬ la < lb := by omega
      go_enter Try.func55, Try.ntmps55
      go_wp2
      exact D.out

theorem Sign_any (ok : Nat → Prop) (s : Bool) (A : Option Addr) (m c n : Nat) (w : World) (hm : m = (dig n).length) (hc : m ≤ c) (h : Row Kd.u32 w ok A (dig n)) :
    Calls Try.prog 53 #[.agg #[.bool s, .slice A m c]] w fun e w' => e = .returned (.int .i64 (sgn s n).sign) ∧ Below w.heap.size w w' := by
  refine veil fun R HP => ?_
  have HR := Lib.hid h
  have HM := Lib.hid hm
  clear h hm
  have h0 : m = 0 → sgn s n = 0 := fun h => by
    have := HM.out
    rcases Nat.eq_zero_or_pos n with h1 | h1
    · rw [h1, sgn_zero]
    · rw [dig_pos n (by omega)] at this; simp at this; omega
  have h1 : m ≠ 0 → n ≠ 0 := fun h => by
    rintro rfl
    have := HM.out
    rw [dig_zero] at this
    exact h this
  have H0 := Lib.hid h0
  have H1 := Lib.hid h1
  clear h0 h1
  go_enter Try.func53, Try.ntmps53
  go_wp2_with (go_at_call 56; refine (magnitude_dig ok s A _ c _ _ HM.out hc (HR.out.alloc _)).mono ?_; rintro e w' ⟨rfl, hb⟩; obtain ⟨q1, q2⟩ := bcell hb; have HB := Lib.hid (ext_trans (ext_alloc (Below.refl w.heap.size w) _) hb); clear hb)
  · have h0 := H0.out (by simpa using (by assumption : ((m : Int) == 0) = true))
    exact HP.out _ _ ⟨by rw [h0]; rfl, HB.out⟩
  · have h1 := H1.out (by simpa using (by assumption : ((m : Int) == 0) = false))
    obtain rfl : s = true := by assumption
    exact HP.out _ _ ⟨by rw [Int.sign_eq_neg_one_of_neg (by simp [sgn]; omega)]; rfl, HB.out⟩
  · have h1 := H1.out (by simpa using (by assumption : ((m : Int) == 0) = false))
    obtain rfl : s = false := by assumption
    exact HP.out _ _ ⟨by rw [Int.sign_eq_one_of_pos (by simp [sgn]; omega)]; rfl, HB.out⟩

theorem sign_cases (a : Int) : (a < 0 ∧ a.sign = -1) ∨ (a = 0 ∧ a.sign = 0) ∨ (0 < a ∧ a.sign = 1) := by
  rcases Int.lt_trichotomy a 0 with h | h | h
  · exact .inl ⟨h, Int.sign_eq_neg_one_of_neg h⟩
  · exact .inr (.inl ⟨h, by rw [h]; rfl⟩)
  · exact .inr (.inr ⟨h, Int.sign_eq_one_of_pos h⟩)
theorem wrap_small (x : Int) (h : -9223372036854775808 ≤ x) (h2 : x ≤ 9223372036854775807) : IntKind.i64.wrap x = x := by
  rw [IntKind.wrap_i64]; omega
theorem ord_range (m n : Int) : -1 ≤ ord m n ∧ ord m n ≤ 1 := by unfold ord; split <;> (try split) <;> omega
theorem cmp_value (s t : Bool) (m n : Nat) (h : (sgn s m).sign = (sgn t n).sign) : IntKind.i64.wrap ((sgn s m).sign * ord m n) = ord (sgn s m) (sgn t n) := by
  have hr := ord_range m n
  rcases sign_cases (sgn s m) with ⟨h1, e1⟩ | ⟨h1, e1⟩ | ⟨h1, e1⟩ <;> rcases sign_cases (sgn t n) with ⟨h2, e2⟩ | ⟨h2, e2⟩ | ⟨h2, e2⟩ <;> rw [e1, e2] at h <;> (first | (exfalso; omega) | skip)
  · rw [e1, wrap_small _ (by omega) (by omega)]
    cases s <;> cases t <;> simp only [sgn, Bool.false_eq_true, if_false, if_true] at h1 h2 ⊢ <;> unfold ord <;> (repeat' split) <;> omega
  · rw [e1, h1, h2, wrap_small _ (by omega) (by omega), ord_eq]; omega
  · rw [e1, wrap_small _ (by omega) (by omega)]
    cases s <;> cases t <;> simp only [sgn, Bool.false_eq_true, if_false, if_true] at h1 h2 ⊢ <;> unfold ord <;> (repeat' split) <;> omega
theorem sign_lt {a b : Int} (h : a.sign < b.sign) : a < b := by
  rcases sign_cases a with ⟨h1, e1⟩ | ⟨h1, e1⟩ | ⟨h1, e1⟩ <;> rcases sign_cases b with ⟨h2, e2⟩ | ⟨h2, e2⟩ | ⟨h2, e2⟩ <;> rw [e1, e2] at h <;> omega

theorem Cmp_any (ok : Nat → Prop) (s t : Bool) (A B : Option Addr) (la lb c d m n : Nat) (w : World) (ha : la = (dig m).length) (hb : lb = (dig n).length) (hc : la ≤ c) (hd : lb ≤ d) (hA : Row Kd.u32 w ok A (dig m)) (hB : Row Kd.u32 w ok B (dig n)) :
    Calls Try.prog 33 #[.agg #[.bool s, .slice A la c], .agg #[.bool t, .slice B lb d]] w fun e w' => e = .returned (.int .i64 (ord (sgn s m) (sgn t n))) ∧ Below w.heap.size w w' := by
  refine veil fun R HP => ?_
  have HA := Lib.hid hA
  have HB := Lib.hid hB
  have EA := Lib.hid ha
  have EB := Lib.hid hb
  clear hA hB ha hb
  have s1 : -1 ≤ (sgn s m).sign ∧ (sgn s m).sign ≤ 1 := by rcases Int.lt_trichotomy (sgn s m) 0 with h | h | h <;> simp [Int.sign_eq_neg_one_of_neg, Int.sign_eq_one_of_pos, h]
  obtain ⟨x, hx⟩ : ∃ x, x = (sgn s m).sign := ⟨_, rfl⟩
  obtain ⟨y, hy⟩ : ∃ y, y = (sgn t n).sign := ⟨_, rfl⟩
  have HX := Lib.hid hx
  have HY := Lib.hid hy
  clear s1 hx hy
  have k1 : ((w.alloc (.cells #[.bool s, .slice A la c] 59)).alloc (.cells #[.bool t, .slice B lb d] 59)).cell? ⟨w.heap.size, 0, none⟩ = some (.bool s) := by simp
  have k2 : ((w.alloc (.cells #[.bool s, .slice A la c] 59)).alloc (.cells #[.bool t, .slice B lb d] 59)).cell? ⟨w.heap.size, 1, none⟩ = some (.slice A la c) := by simp
  have k3 : ((w.alloc (.cells #[.bool s, .slice A la c] 59)).alloc (.cells #[.bool t, .slice B lb d] 59)).cell? ⟨w.heap.size + 1, 0, none⟩ = some (.bool t) := by simp
  have k4 : ((w.alloc (.cells #[.bool s, .slice A la c] 59)).alloc (.cells #[.bool t, .slice B lb d] 59)).cell? ⟨w.heap.size + 1, 1, none⟩ = some (.slice B lb d) := by simp
  have K := Lib.hid (And.intro k1 (And.intro k2 (And.intro k3 k4)))
  clear k1 k2 k3 k4
  go_enter Try.func33, Try.ntmps33
  go_wp2_with fail
  refine (Sign_any ok s A _ c m _ EA.out hc ((HA.out.alloc _).alloc _)).mono ?_
  rintro e w1 ⟨rfl, hb1⟩
  rw [← HX.out]
  have c1 := kept hb1 K.out.1
  have c2 := kept hb1 K.out.2.1
  have c3 := kept hb1 K.out.2.2.1
  have c4 := kept hb1 K.out.2.2.2
  have B1 := Lib.hid (ext_trans (ext_alloc (ext_alloc (Below.refl w.heap.size w) _) _) hb1)
  clear hb1
  go_wp2_with fail
  refine (Sign_any ok t B _ d n _ EB.out hd (HB.out.ext B1.out)).mono ?_
  rintro e w2 ⟨rfl, hb2⟩
  rw [← HY.out]
  replace c1 := kept hb2 c1
  replace c2 := kept hb2 c2
  replace c3 := kept hb2 c3
  replace c4 := kept hb2 c4
  have B2 := Lib.hid (ext_trans B1.out hb2)
  clear hb2
  go_wp2_with fail
  · have h1 : (x != y) = true := by assumption
    have h2 : decide (x < y) = true := by have h : x < y := (by assumption); simpa using h
    exact HP.out _ _ ⟨by rw [ord_lt (sign_lt (by rw [← HX.out, ← HY.out]; simpa using h2))]; rfl, B2.out⟩
  · have h1 : x ≠ y := by simpa using (by assumption : (x != y) = true)
    have h2 : ¬ x < y := by have h : y ≤ x := (by assumption); omega
    exact HP.out _ _ ⟨by rw [ord_gt (sign_lt (by rw [← HX.out, ← HY.out]; omega))]; rfl, B2.out⟩
  · go_region_held3 (fun w' => w'.cell? ⟨w.heap.size, 0, none⟩ = some (.bool s) ∧ w'.cell? ⟨w.heap.size, 1, none⟩ = some (.slice A la c) ∧ w'.cell? ⟨w.heap.size + 1, 0, none⟩ = some (.bool t) ∧ w'.cell? ⟨w.heap.size + 1, 1, none⟩ = some (.slice B lb d))
      (first | exact ⟨kept B4.out.1 d1, kept B4.out.1 d2, kept B4.out.1 d3, kept B4.out.1 d4⟩ | exact ⟨d1, d2, d3, d4⟩ | exact ⟨c1, c2, c3, c4⟩ | exact ⟨f1, f2, f3, f4⟩)
      (first
        | (go_at_call_of 56 (Value.agg #[Value.bool s, Value.slice A la c]); refine (magnitude_dig ok s A _ c m _ EA.out hc (HA.out.ext (ext_drew B2.out))).mono ?_; rintro e w3 ⟨rfl, hb3⟩; have d1 := kept hb3 c1; have d2 := kept hb3 c2; have d3 := kept hb3 c3; have d4 := kept hb3 c4; have B3 := Lib.hid (ext_trans (ext_drew B2.out) hb3); clear hb3)
        | (go_at_call_of 56 (Value.agg #[Value.bool t, Value.slice B lb d]); refine (magnitude_dig ok t B _ d n _ EB.out hd (HB.out.ext B3.out)).mono ?_; rintro e w4 ⟨rfl, hb4⟩; have f1 := kept hb4 d1; have f2 := kept hb4 d2; have f3 := kept hb4 d3; have f4 := kept hb4 d4; have B4 := Lib.hid (ext_trans B3.out hb4); clear hb4)
        | (go_at_call 55; refine (compare_any ok A B _ _ m n _ _ _ EA.out EB.out (HA.out.ext B4.out) (HB.out.ext B4.out)).mono ?_; rintro e w5 ⟨rfl, ⟨q, rfl⟩⟩))
    have h1 : x = y := by simpa using (by assumption : (x != y) = false)
    go_wp2
    refine HP.out _ _ ⟨?_, ext_drewN B4.out q⟩
    rw [← cmp_value s t m n (by rw [← HX.out, ← HY.out]; exact h1), ← HX.out]
    rfl
end Go.Proofs.Ythibocafjkbeeaa
