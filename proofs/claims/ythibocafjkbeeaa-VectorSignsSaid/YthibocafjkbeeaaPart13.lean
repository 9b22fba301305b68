/-
  slices.CompactFunc on vectors with their norms: equal neighbours are struck out. Condition: the row is one that the call owns.
-/
import Derived.Test.YthibocafjkbeeaaPart12
import Derived.Lib.BufferOwn
set_option linter.unusedVariables false
set_option linter.unusedSimpArgs false
namespace Go.Proofs.Ythibocafjkbeeaa
open Go.RowKit

/-- Two elements of the row, and whether the closure calls them equal. -/
theorem eq_pair {base : Nat} {ok : Nat → Prop} {g n cap sb : Nat} {items : List (Int × List Int)} {W : World} (h : Grow Kd.nv W base 51 ok (.slice (some ⟨g, 0, none⟩) n cap) items) (hn : n = items.length) (hs : W.cell? ⟨sb, 1, none⟩ = some (.func (.func 24) #[] #[])) {i j oi oj : Nat} (hi : i < n) (hj : j < n) (ei : oi = i * 2) (ej : oj = j * 2) :
    ∃ A1 c1 A2 c2 n1 n2 p q, (W.cell? ⟨g, oi, none⟩ = some (.int .i64 n1) ∧ W.cell? ⟨g, oi + 1, none⟩ = some (.slice A1 p c1) ∧ W.cell? ⟨g, oj, none⟩ = some (.int .i64 n2) ∧ W.cell? ⟨g, oj + 1, none⟩ = some (.slice A2 q c2)) ∧
      (n1 = (nth items i).1 ∧ p = (nth items i).2.length ∧ (-9223372036854775808 ≤ n1 ∧ n1 ≤ 9223372036854775807) ∧ p ≤ c1 ∧ c1 ≤ 9223372036854775807 ∧ Row Kd.i64 W (fun b => ok b ∧ (Value.slice (some ⟨g, 0, none⟩) n cap).ownBlock ≠ some b) A1 (nth items i).2) ∧
      ∀ W', Below W.heap.size W W' → Calls Try.prog 44 #[.agg #[.int .i64 n1, .slice A1 p c1], .agg #[.int .i64 n2, .slice A2 q c2], .pointer (some ⟨sb, 0, none⟩)] W' fun e w' => e = .returned (.bool (decide (nth items i = nth items j))) ∧ Below W'.heap.size W' w' := by
  subst ei ej
  obtain ⟨A1, c1, x1, x2, -, -, x3, x4, x5, x6⟩ := nv_at h hn hi
  obtain ⟨A2, c2, y1, y2, -, -, y3, y4, y5, y6⟩ := nv_at h hn hj
  refine ⟨A1, c1, A2, c2, _, _, _, _, ⟨x1, x2, y1, y2⟩, ⟨rfl, rfl, x3, x4, x5, x6⟩, fun W' hb => (eq_any _ _ _ A1 A2 _ _ c1 c2 sb _ _ W' rfl rfl x3 y3 (x6.ext hb) (y6.ext hb) (kept hb hs)).mono ?_⟩
  rintro e w' ⟨rfl, hw⟩
  refine ⟨?_, hw⟩
  congr 2
  change (cfV (nth items i) (nth items j) == 0) = _
  by_cases e : nth items i = nth items j
  · rw [← e, cfV_self]; simp
  · have : cfV (nth items i) (nth items j) ≠ 0 := fun h => e (cfV_zero h)
    simp [e, this]
theorem cell_grown {w w' : World} {g sb : Nat} {v : Value} (h : w.grownBy w' (some g)) (hne : sb ≠ g) (hc : w.cell? ⟨sb, 1, none⟩ = some v) : w'.cell? ⟨sb, 1, none⟩ = some v := by
  have hl : sb < w.heap.size := by
    rcases Nat.lt_or_ge sb w.heap.size with h1 | h1
    · exact h1
    · simp [World.cell?, Array.getElem?_eq_none h1] at hc
  have := h.block sb hl fun e => hne (Option.some.inj e)
  rw [← hc]
  simp [World.cell?, this]
/-- What the second loop has done. -/
structure Cmp2 (w w' : World) (base : Nat) (ok : Nat → Prop) (g n cap sb : Nat) (items M : List (Int × List Int)) (kw i : Nat) : Prop where
  len : M.length = n
  top : M.take kw = ddp items (i + 1)
  rest : M.drop i = items.drop i
  le : kw ≤ i
  pos : 1 ≤ kw
  own : Grow Kd.nv w' base 51 ok (.slice (some ⟨g, 0, none⟩) n cap) M
  grown : w.grownBy w' (some g)
  clo : w'.cell? ⟨sb, 1, none⟩ = some (.func (.func 24) #[] #[])
theorem Cmp2.ext {w w' w2 : World} {base : Nat} {ok : Nat → Prop} {g n cap sb : Nat} {items M : List (Int × List Int)} {kw i : Nat} (h : Cmp2 w w' base ok g n cap sb items M kw i) (hb : Below w'.heap.size w' w2) : Cmp2 w w2 base ok g n cap sb items M kw i :=
  ⟨h.len, h.top, h.rest, h.le, h.pos, h.own.ext hb, Lib.grownBy_below h.grown hb, kept hb h.clo⟩
theorem Cmp2.nth_at {w w' : World} {base : Nat} {ok : Nat → Prop} {g n cap sb : Nat} {items M : List (Int × List Int)} {kw i : Nat} (h : Cmp2 w w' base ok g n cap sb items M kw i) (j : Nat) (hj : i ≤ j) : nth M j = nth items j := by
  have h1 := nth_drop M i (j - i)
  have h2 := nth_drop items i (j - i)
  rw [h.rest, h2, show i + (j - i) = j from by omega] at h1
  exact h1.symm
theorem Cmp2.same {w w' : World} {base : Nat} {ok : Nat → Prop} {g n cap sb : Nat} {items M : List (Int × List Int)} {kw i : Nat} (h : Cmp2 w w' base ok g n cap sb items M kw i) (he : nth items (i + 1) = nth items i) : Cmp2 w w' base ok g n cap sb items M kw (i + 1) :=
  ⟨h.len, by rw [h.top, ddp.eq_2 items (i + 1), if_neg]; simp [he], by
    have := congrArg (List.drop 1) h.rest
    rwa [List.drop_drop, List.drop_drop] at this, by have := h.le; omega, h.pos, h.own, h.grown, h.clo⟩
theorem Cmp2.step {w w' : World} {base : Nat} {ok : Nat → Prop} {g n cap sb : Nat} {items M : List (Int × List Int)} {kw i : Nat} (h : Cmp2 w w' base ok g n cap sb items M kw i) (hne : sb ≠ g) (hi : i + 1 < n) (he : nth items (i + 1) ≠ nth items i) {A : Option Addr} {c p : Nat} {n1 : Int} (e1 : n1 = (nth M (i + 1)).1) (e2 : p = (nth M (i + 1)).2.length) (b : -9223372036854775808 ≤ n1 ∧ n1 ≤ 9223372036854775807) (hl : p ≤ c) (hc : c ≤ 9223372036854775807) (hr : Row Kd.i64 w' (fun b => ok b ∧ (Value.slice (some ⟨g, 0, none⟩) n cap).ownBlock ≠ some b) A (nth M (i + 1)).2) :
    Cmp2 w ((w'.setCell ⟨g, kw * 2, none⟩ (.int .i64 n1)).setCell ⟨g, kw * 2 + 1, none⟩ (.slice A p c)) base ok g n cap sb items (M.set kw (nth M (i + 1))) (kw + 1) (i + 1) := by
  subst e1 e2
  have hle := h.le
  have s1 := nv_store h.own h.len.symm (k := kw) (by omega) (x := nth M (i + 1)) b hl hc hr
  refine ⟨by rw [List.length_set]; exact h.len, ?_, ?_, by omega, by omega, s1.1, Lib.grownBy_trans h.grown s1.2, cell_grown s1.2 hne h.clo⟩
  · rw [ddp.eq_2 items (i + 1), if_pos (.inr he), take_step _ _ (by rw [List.length_set, h.len]; omega), ← h.top]
    congr 1
    · rw [List.take_set_of_le (Nat.le_refl _)]
    · rw [nth_eq _ _ (by rw [List.length_set, h.len]; omega), List.getElem_set_self, h.nth_at (i + 1) (by omega)]
  · rw [List.drop_set_of_lt (by omega)]
    have := congrArg (List.drop 1) h.rest
    rwa [List.drop_drop, List.drop_drop] at this
theorem Cmp2.start {w w' : World} {base : Nat} {ok : Nat → Prop} {g n cap sb : Nat} {items : List (Int × List Int)} {k : Nat} (hn : n = items.length) (hk : 1 ≤ k) (hkn : k < n) (hd : ∀ a, 1 ≤ a → a < k → nth items a ≠ nth items (a - 1)) (he : nth items k = nth items (k - 1)) (own : Grow Kd.nv w' base 51 ok (.slice (some ⟨g, 0, none⟩) n cap) items) (grown : w.grownBy w' (some g)) (clo : w'.cell? ⟨sb, 1, none⟩ = some (.func (.func 24) #[] #[])) : Cmp2 w w' base ok g n cap sb items items k k :=
  ⟨hn.symm, by rw [ddp.eq_2 items k, if_neg (by simp [he]; omega), ddp_all items k (by omega) hd], rfl, Nat.le_refl _, hk, own, grown, clo⟩
set_option maxRecDepth 100000 in
set_option maxHeartbeats 2000000 in
theorem Compact_any (base : Nat) (ok : Nat → Prop) (g n cap sb : Nat) (items : List (Int × List Int)) (w : World) (hne : sb ≠ g) (hn : n = items.length) (hsz : n < 4611686018427387904) (hG : Grow Kd.nv w base 51 ok (.slice (some ⟨g, 0, none⟩) n cap) items) (hs : w.cell? ⟨sb, 1, none⟩ = some (.func (.func 24) #[] #[])) :
    Calls Try.prog 43 #[.slice (some ⟨g, 0, none⟩) n cap, .func (.func 44) #[] #[.pointer (some ⟨sb, 0, none⟩)]] w fun e w' => e = .returned (.slice (some ⟨g, 0, none⟩) (ddp items n).length cap) ∧ Grow Kd.nv w' base 51 ok (.slice (some ⟨g, 0, none⟩) (ddp items n).length cap) (ddp items n) ∧ w.grownBy w' (some g) := by
  refine veil fun R HP => ?_
  have HN := Lib.hid hn
  have HS := Lib.hid hs
  have HG := Lib.hid hG
  have HNE := Lib.hid hne
  have eg : ∀ args W, (callFunc 44 args).run Try.prog W = .ok (.enter 44 args) W := fun args W => enters' Try.func44 rfl rfl args W
  clear hn hs hG hne
  by_cases h2 : n < 2
  · have e2 : decide ((n : Int) < 2) = true := by simp; omega
    have HA := Lib.hid (show ddp items n = items from by
      rw [ddp_all items n (by rw [← HN.out]; exact Nat.le_refl _) fun a h1 h3 => by omega, HN.out, List.take_length])
    go_enter Try.func43, Try.ntmps43
    go_wp2
    exact HP.out _ _ ⟨by rw [HA.out, ← HN.out]; rfl, by rw [HA.out, ← HN.out]; exact HG.out, ⟨rfl, rfl, rfl, Nat.le_refl _, fun _ _ _ => rfl⟩⟩
  · have e2 : decide ((n : Int) < 2) = false := by simp; omega
    go_enter Try.func43, Try.ntmps43
    have hcap : (n : Int) ≤ (cap : Int) := by
      have h3 := (HG.out.weak (ok' := All) fun _ _ _ => trivial).row' (fun _ _ _ => trivial)
      obtain ⟨A, c, h1, h2, -⟩ := h3
      injection h1 with _ _ h1
      subst h1
      rw [← HN.out] at h2
      omega
    go_wp2
    go_loopw [5] (fun i w' => ∃ k : Nat, k + 1 ≤ n ∧ i = .int .i64 ((k : Int) + 1) ∧ Hid (∀ a, 1 ≤ a → a < k + 1 → nth items a ≠ nth items (a - 1)) ∧ Hid (Below w.heap.size w w')) (fun i _ => n - (intOf i).toNat)
    case atStart => exact ⟨0, by omega, by go_num, Lib.hid (fun a h1 h2 => by omega), Lib.hid (Below.refl _ _)⟩
    case round =>
      obtain ⟨k, hk, rfl, HD, HB⟩ := hrel
      by_cases hlt : k + 1 < n
      · obtain ⟨A1, c1, A2, c2, n1, n2, p, q, cells, -, con⟩ := eq_pair (HG.out.ext HB.out) HN.out (kept HB.out HS.out) (i := k + 1) (j := k) (oi := (k + 1) * 2) (oj := k * 2) hlt (by omega) rfl rfl
        have CC := Lib.hid cells
        have CON := Lib.hid con
        clear cells con
        have i1 : (0 : Int) ≤ (k : Int) := by omega
        have i2 : (k : Int) < (n : Int) := by omega
        have i3 : (0 : Int) ≤ (k : Int) + 1 := by omega
        have i4 : (k : Int) + 1 < (n : Int) := by omega
        have i5 : IntKind.i64.wrap ((k : Int) + 1 - 1) = (k : Int) := by rw [wrap_small _ (by omega) (by omega)]; omega
        have i6 : IntKind.i64.wrap (k : Int) = (k : Int) := wrap_small _ (by omega) (by omega)
        by_cases heq : nth items (k + 1) = nth items k
        · have HE := Lib.hid heq
          have CON2 := Lib.hid (show ∀ W', Below wr.heap.size wr W' → Calls Try.prog 44 #[.agg #[.int .i64 n1, .slice A1 p c1], .agg #[.int .i64 n2, .slice A2 q c2], .pointer (some ⟨sb, 0, none⟩)] W' fun e w' => e = .returned (.bool true) ∧ Below W'.heap.size W' w' from fun W' hb => by
            have := CON.out W' hb
            rwa [show decide (nth items (k + 1) = nth items k) = true from by simp [HE.out]] at this)
          clear CON heq
          go_wp2_with fail
          go_region_held3 (fun w' => w'.cell? ⟨g, (k + 1) * 2, none⟩ = some (.int .i64 n1) ∧ w'.cell? ⟨g, (k + 1) * 2 + 1, none⟩ = some (.slice A1 p c1) ∧ w'.cell? ⟨g, k * 2, none⟩ = some (.int .i64 n2) ∧ w'.cell? ⟨g, k * 2 + 1, none⟩ = some (.slice A2 q c2))
            (first | exact all_kept4 (ext_drew (Below.refl _ _)) CC.out | exact all_kept4 B2.out CC.out | exact CC.out)
            (first | (go_at_call 44; refine (CON2.out _ (ext_drew (Below.refl _ _))).mono ?_; rintro e w2 ⟨rfl, hb⟩; have B2 := Lib.hid (ext_trans (show Below wr.heap.size wr _ from ext_drew (Below.refl _ _)) hb); clear hb))
          go_wp2
          obtain ⟨r, hr⟩ : ∃ r, r = n - (k + 1) := ⟨_, rfl⟩
          obtain ⟨cr, hcr⟩ : ∃ cr, cr = cap - (k + 1) := ⟨_, rfl⟩
          rw [← hr, ← hcr]
          have HR := Lib.hid hr
          clear hr hcr
          go_loopw [5, 7] (fun i j w' => ∃ (q kw : Nat) (M : List (Int × List Int)), q + 1 ≤ r ∧ i = .int .i64 (kw : Int) ∧ j = .int .i64 ((q : Int) + 1) ∧ Hid (Cmp2 w w' base ok g n cap sb items M kw (k + 1 + q))) (fun _ j _ => r - (intOf j).toNat)
          case atStart => exact ⟨0, k + 1, items, by have := HR.out; omega, by go_num, by go_num, Lib.hid (Cmp2.start HN.out (by omega) hlt HD.out HE.out (HG.out.ext (ext_trans HB.out B2.out)) (Lib.grownBy_below ⟨rfl, rfl, rfl, Nat.le_refl _, fun _ _ _ => rfl⟩ (ext_trans HB.out B2.out)) (kept (ext_trans HB.out B2.out) HS.out))⟩
          case round =>
            obtain ⟨q, kw, M, hq, rfl, rfl, HC⟩ := hrel
            have hkw := HC.out.le
            have hkw1 := HC.out.pos
            have hr := HR.out
            have hrn : k + 1 + q < n := by omega
            by_cases hlt2 : q + 1 < r
            · have hrn2 : k + 1 + q + 1 < n := by omega
              clear hr
              obtain ⟨wx, rfl⟩ : ∃ wo : World, wo = wr := ⟨_, rfl⟩
              obtain ⟨D1, d1, D2, d2, m1, m2, p1, p2, cells, item, con⟩ := eq_pair HC.out.own HC.out.len.symm HC.out.clo (i := k + 1 + q + 1) (j := k + 1 + q) (oi := (k + 1) * 2 + (q + 1) * 2) (oj := (k + 1) * 2 + q * 2) (by omega) (by omega) (by omega) (by omega)
              have DD := Lib.hid cells
              have CON := Lib.hid con
              have IT := Lib.hid item
              clear cells con item
              have j1 : (0 : Int) ≤ (q : Int) := by omega
              have j2 : (q : Int) < (r : Int) := by omega
              have j3 : (0 : Int) ≤ (q : Int) + 1 := by omega
              have j4 : (q : Int) + 1 < (r : Int) := by omega
              have j5 : IntKind.i64.wrap ((q : Int) + 1 - 1) = (q : Int) := by rw [wrap_small _ (by omega) (by omega)]; omega
              have j6 : IntKind.i64.wrap (q : Int) = (q : Int) := wrap_small _ (by omega) (by omega)
              have j7 : (0 : Int) ≤ (kw : Int) := by omega
              have j8 : (kw : Int) < (n : Int) := by omega
              by_cases heq3 : nth M (k + 1 + q + 1) = nth M (k + 1 + q)
              · have HE3 := Lib.hid heq3
                clear heq3
                have CON3 := Lib.hid (show ∀ W', Below wx.heap.size wx W' → Calls Try.prog 44 #[.agg #[.int .i64 m1, .slice D1 p1 d1], .agg #[.int .i64 m2, .slice D2 p2 d2], .pointer (some ⟨sb, 0, none⟩)] W' fun e w' => e = .returned (.bool true) ∧ Below W'.heap.size W' w' from fun W' hb => by
                  have := CON.out W' hb
                  rwa [show decide (nth M (k + 1 + q + 1) = nth M (k + 1 + q)) = true from by simp [HE3.out]] at this)
                clear CON
                go_wp2_with fail
                go_region_held3 (fun w' => w'.cell? ⟨g, (k + 1) * 2 + (q + 1) * 2, none⟩ = some (.int .i64 m1) ∧ w'.cell? ⟨g, (k + 1) * 2 + (q + 1) * 2 + 1, none⟩ = some (.slice D1 p1 d1) ∧ w'.cell? ⟨g, (k + 1) * 2 + q * 2, none⟩ = some (.int .i64 m2) ∧ w'.cell? ⟨g, (k + 1) * 2 + q * 2 + 1, none⟩ = some (.slice D2 p2 d2))
                  (first | exact all_kept4 (ext_drew (Below.refl _ _)) DD.out | exact all_kept4 B3.out DD.out | exact DD.out)
                  (first | (go_at_call 44; refine (CON3.out _ (ext_drew (Below.refl _ _))).mono ?_; rintro e w3 ⟨rfl, hb⟩; have B3 := Lib.hid (ext_trans (show Below wx.heap.size wx _ from ext_drew (Below.refl _ _)) hb); clear hb))
                go_wp2
                go_roundw
                case rel => exact ⟨q + 1, kw, M, by omega, by go_num, by go_num, Lib.hid ((HC.out.ext B3.out).same (by rw [← HC.out.nth_at _ (by omega), ← HC.out.nth_at _ (by omega)]; exact HE3.out))⟩
                case measure => simp [intOf] <;> omega
              · have HE3 := Lib.hid heq3
                clear heq3
                have CON3 := Lib.hid (show ∀ W', Below wx.heap.size wx W' → Calls Try.prog 44 #[.agg #[.int .i64 m1, .slice D1 p1 d1], .agg #[.int .i64 m2, .slice D2 p2 d2], .pointer (some ⟨sb, 0, none⟩)] W' fun e w' => e = .returned (.bool false) ∧ Below W'.heap.size W' w' from fun W' hb => by
                  have := CON.out W' hb
                  rwa [show decide (nth M (k + 1 + q + 1) = nth M (k + 1 + q)) = false from by simp [HE3.out]] at this)
                clear CON
                go_wp2_with fail
                go_region_held3 (fun w' => w'.cell? ⟨g, (k + 1) * 2 + (q + 1) * 2, none⟩ = some (.int .i64 m1) ∧ w'.cell? ⟨g, (k + 1) * 2 + (q + 1) * 2 + 1, none⟩ = some (.slice D1 p1 d1) ∧ w'.cell? ⟨g, (k + 1) * 2 + q * 2, none⟩ = some (.int .i64 m2) ∧ w'.cell? ⟨g, (k + 1) * 2 + q * 2 + 1, none⟩ = some (.slice D2 p2 d2))
                  (first | exact all_kept4 (ext_drew (Below.refl _ _)) DD.out | exact all_kept4 B3.out DD.out | exact DD.out)
                  (first | (go_at_call 44; refine (CON3.out _ (ext_drew (Below.refl _ _))).mono ?_; rintro e w3 ⟨rfl, hb⟩; have B3 := Lib.hid (ext_trans (show Below wx.heap.size wx _ from ext_drew (Below.refl _ _)) hb); clear hb))
                have H3 := Lib.hid (HC.out.ext B3.out)
                obtain ⟨z1, z2, -, -⟩ := all_kept4 B3.out DD.out
                obtain ⟨_, _, v1, v2, fr1, fr2, -⟩ := nv_at H3.out.own H3.out.len.symm (i := kw) (by omega)
                go_wp2
                go_roundw
                case rel =>
                  obtain ⟨e1, e2, e3, e4, e5, e6⟩ := IT.out
                  exact ⟨q + 1, kw + 1, _, by omega, by go_num, by go_num, Lib.hid (H3.out.step HNE.out hrn2 (by rw [← HC.out.nth_at _ (by omega), ← HC.out.nth_at _ (by omega)]; exact HE3.out) e1 e2 e3 e4 e5 (e6.ext B3.out))⟩
                case measure => simp [intOf] <;> omega
            · have HRN := Lib.hid (show n = k + 1 + q + 1 from by omega)
              clear hr
              obtain rfl : r = q + 1 := by omega
              obtain ⟨w4, hrun, hG4, hgr4⟩ := nv_clear HC.out.own HC.out.len.symm (k := kw) (by omega)
              have j1 : (0 : Int) ≤ (kw : Int) := by omega
              have j2 : (kw : Int) ≤ (n : Int) := by omega
              have j3 : (kw : Int) ≤ (cap : Int) := by omega
              have G4 := Lib.hid hG4
              have R4 := Lib.hid hgr4
              clear hG4 hgr4
              have TP := Lib.hid (show ddp items n = M.take kw from by rw [HC.out.top, HRN.out])
              have TL := Lib.hid (show (ddp items n).length = kw from by rw [TP.out, List.length_take, HC.out.len]; omega)
              have R5 := Lib.hid (Lib.grownBy_trans HC.out.grown R4.out)
              go_wp2
              exact HP.out _ _ ⟨by rw [TL.out]; rfl, by rw [TL.out, TP.out]; exact G4.out, R5.out⟩
        · have HE := Lib.hid heq
          have CON2 := Lib.hid (show ∀ W', Below wr.heap.size wr W' → Calls Try.prog 44 #[.agg #[.int .i64 n1, .slice A1 p c1], .agg #[.int .i64 n2, .slice A2 q c2], .pointer (some ⟨sb, 0, none⟩)] W' fun e w' => e = .returned (.bool false) ∧ Below W'.heap.size W' w' from fun W' hb => by
            have := CON.out W' hb
            rwa [show decide (nth items (k + 1) = nth items k) = false from by simp [HE.out]] at this)
          clear CON heq
          go_wp2_with fail
          go_region_held3 (fun w' => w'.cell? ⟨g, (k + 1) * 2, none⟩ = some (.int .i64 n1) ∧ w'.cell? ⟨g, (k + 1) * 2 + 1, none⟩ = some (.slice A1 p c1) ∧ w'.cell? ⟨g, k * 2, none⟩ = some (.int .i64 n2) ∧ w'.cell? ⟨g, k * 2 + 1, none⟩ = some (.slice A2 q c2))
            (first | exact all_kept4 (ext_drew (Below.refl _ _)) CC.out | exact all_kept4 B2.out CC.out | exact CC.out)
            (first | (go_at_call 44; refine (CON2.out _ (ext_drew (Below.refl _ _))).mono ?_; rintro e w2 ⟨rfl, hb⟩; have B2 := Lib.hid (ext_trans (show Below wr.heap.size wr _ from ext_drew (Below.refl _ _)) hb); clear hb))
          go_wp2
          go_roundw
          case rel =>
            refine ⟨k + 1, by omega, by go_num, Lib.hid fun a h1 h3 => ?_, Lib.hid (ext_trans HB.out B2.out)⟩
            by_cases e : a = k + 1
            · subst e; exact HE.out
            · exact HD.out a h1 (by omega)
          case measure => simp [intOf] <;> omega
      · obtain rfl : n = k + 1 := by omega
        have HA := Lib.hid (show ddp items (k + 1) = items from by
          rw [ddp_all items (k + 1) (by rw [← HN.out]; exact Nat.le_refl _) HD.out, HN.out, List.take_length])
        go_wp2
        exact HP.out _ _ ⟨by rw [HA.out, ← HN.out]; rfl, by rw [HA.out, ← HN.out]; exact HG.out.ext HB.out, Lib.grownBy_below ⟨rfl, rfl, rfl, Nat.le_refl _, fun _ _ _ => rfl⟩ HB.out⟩
end Go.Proofs.Ythibocafjkbeeaa
