/-
  vector.SortUnique: which lists it takes, what it answers. Condition: the form's numbers on the way are small, the lists' bytes stay below a given bound.
-/
import Derived.Test.YthibocafjkbeeaaPart14
import Derived.Laws.EntriesVeiled
set_option linter.unusedVariables false
set_option linter.unusedSimpArgs false
namespace Go.Proofs.Ythibocafjkbeeaa
open Go.RowKit

/-- The vectors that vector.SortUnique takes. -/
def srtX (h : List (List Int)) (x : List Int) : Bool := canB x && (decide (x.length = h.length) && valB (innerZ h x x h.length))
def srtB (h l : List (List Int)) : Bool := redB h && l.all (srtX h)
def srtP (h : List (List Int)) (x : List Int) : Int × List Int := (innerZ h x x h.length, can x)
/-- The state of the first loop. -/
structure SU (w w' : World) (sb : Nat) (v : Value) (xs : List (Int × List Int)) : Prop where
  grow : Grow Kd.nv w' (sb + 1) 51 (fun b => sb < b) v xs
  box : Own w' sb 55 [v, .func (.func 24) #[] #[]]
  ext : Below w.heap.size w w'
  ge : w.heap.size ≤ sb
theorem SU.move {w w1 w2 : World} {sb : Nat} {v : Value} {xs : List (Int × List Int)} (h : SU w w1 sb v xs) (hb : Below w1.heap.size w1 w2) : SU w w2 sb v xs :=
  ⟨h.grow.ext hb, h.box.ext hb, ext_trans h.ext hb, h.ge⟩
theorem info_r64 : (Try.prog.info? 22).map (fun i => (i.zero, i.size, i.bytes)) = some (some (.slice none 0 0), 1, 24) := by kernel_rfl
theorem SU.kept_box {w w1 w2 : World} {sb : Nat} {v : Value} {xs : List (Int × List Int)} (h : SU w w1 sb v xs) (hr : w1.grownBy w2 v.ownBlock) : Own w2 sb 55 [v, .func (.func 24) #[] #[]] :=
  h.box.keep (hr.block sb h.box.lt fun e => by have := (h.grow.lt sb e.symm).1; omega)
theorem nv_one (z : Int) (A : Option Addr) (l d : Nat) : ∀ u ∈ [Value.int .i64 z, .slice A l d], u.oneCell' = true := by
  intro u hu
  rcases List.mem_cons.1 hu with rfl | hu
  · rfl
  · rcases List.mem_cons.1 hu with rfl | hu
    · rfl
    · cases hu
theorem SU.store {w w1 w2 : World} {sb : Nat} {v v' : Value} {xs ys : List (Int × List Int)} (h : SU w w1 sb v xs) (hg : Grow Kd.nv w2 (sb + 1) 51 (fun b => sb < b) v' ys) (hr : w1.grownBy w2 v.ownBlock) (hv : v'.oneCell' = true) : SU w (w2.setCell ⟨sb, 0, none⟩ v') sb v' ys := by
  have hne : ∀ g, v.ownBlock = some g → sb < g := fun g e => by have := (h.grow.lt g e).1; omega
  have b2 : Own w2 sb 55 [v, .func (.func 24) #[] #[]] := h.box.keep (hr.block sb h.box.lt fun e => by have := hne sb e.symm; omega)
  refine ⟨hg.far (fun e => by have := (hg.lt sb e).1; omega) (fun b hb e => by have e2 : b = sb := e; omega) _, b2.set_ 0 v', ?_, h.ge⟩
  exact ext_set (ext_grown h.ext hr fun k e => by have := hne k e; have := h.ge; omega) h.ge _
theorem SU.start {w : World} (w1 : World) (hb : Below w.heap.size w w1) : SU w (w1.alloc (.cells #[.slice none 0 0, .func (.func 24) #[] #[]] 55)) w1.heap.size (.slice none 0 0) [] :=
  ⟨Grow.nil _ _ _ _, Own.new _ _ _, ext_trans hb (ext_alloc (Below.refl _ _) _), hb.size⟩
theorem srt_no {h l : List (List Int)} (j : Nat) (hj : j < l.length) (hx : srtX h (nth l j) = false) : srtB h l = false := by
  have : l.all (srtX h) = false := List.all_eq_false.2 ⟨nth l j, by rw [nth_eq _ _ hj]; exact List.getElem_mem _, by rw [hx]; decide⟩
  rw [srtB, this]; simp
theorem srt_yes {h l : List (List Int)} (hr : redB h = true) (ha : ∀ j, j < l.length → srtX h (nth l j) = true) : srtB h l = true := by
  have : l.all (srtX h) = true := List.all_eq_true.2 fun x hx => by
    obtain ⟨j, hj, rfl⟩ := List.mem_iff_getElem.1 hx
    rw [← nth_eq _ _ hj]
    exact ha j hj
  rw [srtB, hr, this]; rfl
theorem srtX_bounds {h : List (List Int)} {x : List Int} (hx : valB (innerZ h x x h.length) = true) : -9223372036854775808 ≤ innerZ h x x h.length ∧ innerZ h x x h.length ≤ 9223372036854775807 := by
  simp only [valB, decide_eq_true_eq] at hx
  omega
set_option maxRecDepth 100000 in
set_option maxHeartbeats 2000000 in
theorem SortUnique_any (ok : Nat → Prop) (A B : Option Addr) (n c k d : Nat) (h l : List (List Int)) (w : World) (hn : n = h.length) (hk : k = l.length) (hf : FmOk h n) (hkb : k ≤ 4398046511104) (hlb : ∀ i, i < k → (nth l i).length * 8 ≤ 140737488355328) (h1 : Row Kd.i64.slice w ok A h) (h2 : Row Kd.i64.slice w ok B l) :
    Calls Try.prog 15 #[.slice A n c, .slice B k d] w fun e w' => (if srtB h l = true then ∃ A2 c2 L, (Asc L ∧ ∀ p, p ∈ L ↔ p ∈ l.map (srtP h)) ∧ (L.length ≤ c2 ∧ c2 ≤ 9223372036854775807 ∧ Row Kd.i64.slice w' (fun b => w.heap.size ≤ b) A2 (L.map (·.2))) ∧ e = .returned (.tuple #[.slice A2 L.length c2, .bool true]) else e = .returned (.tuple #[.slice none 0 0, .bool false])) ∧ Below w.heap.size w w' := by
  refine veil fun R HP => ?_
  have H1 := Lib.hid h1
  have H2 := Lib.hid h2
  have HN := Lib.hid hn
  have HK := Lib.hid hk
  have HL := Lib.hid hlb
  have IR := Lib.hid (IsReduced_any ok A n c h w hn hf.det hf.red h1)
  clear h1 h2 hn hk hf hlb
  rcases Bool.eq_false_or_eq_true (redB h) with hr | hr
  · have HR := Lib.hid hr
    rw [hr] at IR
    have SQ := Lib.hid (show Sq h n from by rw [HN.out]; exact red_sq hr)
    clear hr
    go_enter Try.func15, Try.ntmps15
    go_wp2_with (go_at_call 23; refine IR.out.mono ?_; rintro e w1 ⟨rfl, hb⟩; have B1 := Lib.hid hb; clear hb)
    have S1 := Lib.hid (SU.start (w := w) w1 B1.out)
    generalize hw2 : w1.alloc (.cells #[.slice none 0 0, .func (.func 24) #[] #[]] 55) = w2 at S1 ⊢
    clear hw2
    obtain ⟨sb, hsb⟩ : ∃ sb, sb = w1.heap.size := ⟨_, rfl⟩
    rw [← hsb] at S1 ⊢
    clear hsb
    go_loopw [21] (fun i w' => ∃ (j : Nat) (v : Value), j ≤ k ∧ i = .int .i64 (j : Int) ∧ Hid (∀ a, a < j → srtX h (nth l a) = true) ∧ Hid (SU w w' sb v ((l.take j).map (srtP h)))) (fun i _ => k - (intOf i).toNat)
    case atStart => exact ⟨0, _, by omega, by go_num, Lib.hid (fun a ha => by omega), S1⟩
    case round =>
      obtain ⟨j, v, hj, rfl, HA, HS⟩ := hrel
      obtain ⟨wx, rfl⟩ : ∃ wo : World, wo = wr := ⟨_, rfl⟩
      by_cases hlt : j < k
      · obtain ⟨ad, E, e, rfl, a1, a2, a3, hrow⟩ := (H2.out.ext HS.out.ext).sub (i := j) (by rw [← HK.out]; exact hlt)
        have hb8 := HL.out j hlt
        obtain ⟨x, hx⟩ : ∃ x, x = nth l j := ⟨_, rfl⟩
        rw [← hx] at a1 a2 hrow hb8
        have HX := Lib.hid hx
        obtain ⟨m, hm⟩ : ∃ m, m = x.length := ⟨_, rfl⟩
        rw [← hm] at a1 a2 hb8
        have HM := Lib.hid hm
        have CA := Lib.hid (vCanon_any ok E m e x wx HM.out hb8 hrow)
        have HR2 := Lib.hid hrow
        clear hrow hx hm
        have i1 : (0 : Int) ≤ (j : Int) := by omega
        have i2 : (j : Int) < (k : Int) := by omega
        rcases Bool.eq_false_or_eq_true (canB x) with hc | hc
        · rw [hc] at CA
          have HC := Lib.hid hc
          clear hc
          by_cases hmn : m = n
          · subst hmn
            obtain ⟨z, hz⟩ : ∃ z, z = innerZ h x x h.length := ⟨_, rfl⟩
            have HZ := Lib.hid hz
            clear hz
            have HG1 := Lib.hid (H1.out.ext HS.out.ext)
            have t1 : ((m : Int) != (m : Int)) = false := by simp
            go_wp2_with fail
            with_reducible refine CA.out.mono ?_
            rintro e' w3 ⟨hif, hb3⟩
            rw [if_pos (by trivial)] at hif
            obtain ⟨v3, hv3, rfl⟩ := hif
            have hgr3 := num_grow (ok := fun b => wx.heap.size ≤ b) (grow_num hv3) (fun i hi => by have := can_in (by have := HC.out; rw [canB, Bool.and_eq_true] at this; exact this.1) i hi; omega)
            obtain ⟨A3, c3, rfl, l3, l4, r3⟩ := hgr3.row (fun g hg => hg)
            rw [can_length, ← HM.out] at l3
            rw [can_length, ← HM.out]
            have R3 := Lib.hid r3
            have B3 := Lib.hid hb3
            clear hv3 hgr3 r3
            go_wp2_with fail
            with_reducible refine (inner_any ok A E E m c _ _ h x x w3 SQ.out HM.out HM.out (HG1.out.ext B3.out) (HR2.out.ext B3.out) (HR2.out.ext B3.out)).mono ?_
            rintro e' w4 ⟨v4, hv4, rfl, hb4⟩
            rw [HN.out, ← HZ.out] at hv4
            have V4 := Lib.hid hv4
            have B4 := Lib.hid (ext_trans B3.out hb4)
            have B34 := Lib.hid hb4
            clear hv4 hb4
            go_wp2_with fail
            with_reducible refine (value_any _ _ z w4 V4.out).mono ?_
            rintro e' w5 ⟨rfl, hb5⟩
            have B5 := Lib.hid (ext_trans B4.out hb5)
            have B35 := Lib.hid (ext_trans B34.out hb5)
            have S5 := Lib.hid (HS.out.move B5.out)
            clear hb5
            rcases Bool.eq_false_or_eq_true (valB z) with hval | hval
            · rw [hval, if_pos rfl]
              have HXX := Lib.hid (show srtX h x = true from by rw [srtX, HC.out, ← HM.out, ← HZ.out, hval, HN.out]; simp)
              have ZB := Lib.hid (show -9223372036854775808 ≤ z ∧ z ≤ 9223372036854775807 from by rw [HZ.out]; exact srtX_bounds (by rw [← HZ.out]; exact hval))
              have hlen : ((l.take j).map (srtP h)).length = j := by rw [List.length_map, List.length_take, ← HK.out]; omega
              have hsl := HS.out.box.lt
              have GE := Lib.hid (HS.out.grow.lt)
              obtain ⟨Av, cv, rfl, -⟩ := S5.out.grow.row' (fun g hg _ => by omega)
              rw [hlen] at S5 GE
              have EX := Lib.hid (ext_alloc (Below.refl w5.heap.size w5) (.cells #[.int .i64 z, .slice A3 m c3] 51))
              have X5 := Lib.hid (S5.out.move EX.out)
              have Y5 := Lib.hid (show Kd.nv.K (w5.alloc (.cells #[.int .i64 z, .slice A3 m c3] 51)) (fun b => sb < b ∧ (Value.slice Av j cv).ownBlock ≠ some b) (srtP h x) [.int .i64 z, .slice A3 m c3] from
                ⟨[.int .i64 z], [.slice A3 m c3], rfl, by rw [srtP, ← HZ.out]; exact ⟨rfl, ZB.out.1, ZB.out.2⟩, slice_K (show m = (can x).length from by rw [can_length]; exact HM.out) l3 l4 (((((R3.out.weak (ok' := fun b => sb < b ∧ (Value.slice Av j cv).ownBlock ≠ some b) fun b hb _ => ⟨by omega, fun e2 => by have := (GE.out b e2).2; omega⟩)).ext B35.out)).ext EX.out)⟩)
              have c0 : w5.cell? ⟨sb, 0, none⟩ = some (.slice Av j cv) := S5.out.box.cell 0
              have o1 := Lib.hid (two_cells w5 (.int .i64 z) (.slice A3 m c3) 51 (s := w5.heap.size) rfl)
              have HLN := Lib.hid (show ((l.take j).map (srtP h) ++ [srtP h x]).length = j + 1 from by rw [List.length_append, hlen]; rfl)
              clear hval hlen GE
              go_wp2_with (at_builtin; (refine wpList_push (k := Kd.nv) rfl (.tmp 50) (.tmp 54) 53 rfl (.agg #[.int .i64 0, .slice none 0 0]) 32 Try.underlying53 info_nv rfl (show 0 < 2 by omega) rfl X5.out.grow (srtP h x) [.int .i64 z, .slice A3 m c3] Y5.out ⟨w5.heap.size, 0, none⟩ 1 rfl o1.out (nv_one _ _ _ _) (by rw [List.length_map, List.length_take]; omega) (by rw [List.length_map, List.length_take]; omega) X5.out.box.lt ?_); (intro v' w6 hg6 hr6 hv6; obtain ⟨A7, c7, e7, -⟩ := hg6.row' (fun g hg _ => by omega); rw [HLN.out] at e7; subst e7; have G6 := Lib.hid hg6; have R6 := Lib.hid hr6; have b6 := X5.out.kept_box hr6; have s3 := b6.cell 0; have s4 := b6.free 0; clear hg6 hr6 hv6 b6))
              go_roundw
              case rel =>
                have h9 := X5.out.store G6.out R6.out rfl
                refine ⟨j + 1, _, by omega, by go_num, Lib.hid fun a ha => ?_, Lib.hid (by rw [take_step l j (by rw [← HK.out]; exact hlt), List.map_append, ← HX.out, List.map_singleton]; exact h9)⟩
                by_cases e : a = j
                · subst e; rw [← HX.out]; exact HXX.out
                · exact HA.out a (by omega)
              case measure => simp [intOf] <;> omega
            · rw [hval]
              have HF := Lib.hid (show srtB h l = false from srt_no j (by rw [← HK.out]; exact hlt) (by rw [← HX.out, srtX, ← HZ.out, hval]; simp))
              have BF := Lib.hid (S5.out.ext)
              clear hval
              go_wp2
              exact HP.out _ _ ⟨by rw [if_neg (by rw [HF.out]; decide)] <;> rfl, BF.out⟩
          · have HF := Lib.hid (show srtB h l = false from srt_no j (by rw [← HK.out]; exact hlt) (by rw [← HX.out, srtX, ← HM.out, ← HN.out, decide_eq_false hmn]; simp))
            have t1 : ((m : Int) != (n : Int)) = true := by simp; omega
            go_wp2_with fail
            with_reducible refine CA.out.mono ?_
            rintro e w3 ⟨hif, hb3⟩
            rw [if_pos (by trivial)] at hif
            obtain ⟨v3, -, rfl⟩ := hif
            have B3 := Lib.hid (ext_trans HS.out.ext hb3)
            clear hb3
            go_wp2
            exact HP.out _ _ ⟨by rw [if_neg (by rw [HF.out]; decide)] <;> rfl, B3.out⟩
        · rw [hc] at CA
          have HF := Lib.hid (show srtB h l = false from srt_no j (by rw [← HK.out]; exact hlt) (by rw [← HX.out, srtX, hc]; rfl))
          clear hc
          go_wp2_with fail
          with_reducible refine CA.out.mono ?_
          rintro e w3 ⟨hif, hb3⟩
          rw [if_neg (by decide)] at hif
          subst hif
          have B3 := Lib.hid (ext_trans HS.out.ext hb3)
          clear hb3
          go_wp2
          exact HP.out _ _ ⟨by rw [if_neg (by rw [HF.out]; decide)] <;> rfl, B3.out⟩
      · obtain rfl : j = k := by omega
        have HF := Lib.hid (show srtB h l = true from srt_yes HR.out (by rw [← HK.out]; exact HA.out))
        have hlen : ((l.take j).map (srtP h)).length = j := by rw [List.length_map, List.length_take, ← HK.out]; omega
        obtain ⟨Av, cv, rfl, q1, q2, q3⟩ := HS.out.grow.row' (fun g hg _ => by omega)
        rw [hlen] at HS q1
        have Q3 := Lib.hid q3
        have HLN := Lib.hid hlen
        have c0 : wx.cell? ⟨sb, 0, none⟩ = some (.slice Av j cv) := HS.out.box.cell 0
        have c1 : wx.cell? ⟨sb, 1, none⟩ = some (.func (.func 24) #[] #[]) := HS.out.box.cell 1
        clear q3 hlen
        go_wp2_with fail
        with_reducible refine (sorted_any (fun b => sb < b) Av j cv ((l.take j).map (srtP h)) wx HLN.out.symm (by omega) Q3.out).mono ?_
        rintro e' w3 ⟨v3, L, hg3, rfl, ⟨hL, hLn⟩, hb3⟩
        rw [show l.take j = l from by rw [HK.out, List.take_length]] at hL
        have PL := Lib.hid hL
        have B3 := Lib.hid (ext_trans HS.out.ext hb3)
        have G3 := Lib.hid (hg3.weak (ok' := fun b => sb < b) fun b hb _ => by
          rcases hb with hb | hb
          · exact hb.1
          · have := HS.out.box.lt; omega)
        obtain ⟨A3, c3, rfl, r1, r2, -⟩ := (hg3.weak (ok' := All) fun _ _ _ => trivial).row (fun _ _ => trivial)
        obtain ⟨nL, hnL⟩ : ∃ nL, nL = L.length := ⟨_, rfl⟩
        rw [← hnL] at G3 r1 hLn
        rw [← hnL]
        have HNL := Lib.hid hnL
        clear hg3 hL hb3 hnL c0 c1
        go_wp2
        go_loopw [12, 61] (fun u i w' => ∃ q : Nat, q ≤ nL ∧ i = .int .i64 (q : Int) ∧ Hid (LG Kd.i64.slice 22 w3 w' (Old w3 (fun b => sb < b)) u ((L.take q).map (·.2)))) (fun _ i _ => nL - (intOf i).toNat)
        case atStart => exact ⟨0, by omega, by go_num, Lib.hid (LG.nil (Below.refl _ _))⟩
        case round =>
          obtain ⟨q, hq, rfl, HG⟩ := hrel
          by_cases hlt2 : q < nL
          · have hsh := grow_shape G3.out HNL.out
            rcases hsh with ⟨-, hnil⟩ | ⟨g, cap, e3⟩
            · have h9 := HNL.out
              rw [hnil] at h9
              simp only [List.length_nil] at h9
              omega
            · simp only [Value.slice.injEq, true_and] at e3
              obtain ⟨rfl, rfl⟩ := e3
              obtain ⟨D, dd, x1, x2, -, -, x3, x5, x6, x7⟩ := nv_at G3.out HNL.out hlt2
              obtain ⟨m1, hm1⟩ : ∃ m1, m1 = (nth L q).1 := ⟨_, rfl⟩
              obtain ⟨p, hp⟩ : ∃ p, p = (nth L q).2.length := ⟨_, rfl⟩
              rw [← hm1] at x1
              rw [← hp] at x2 x5
              have HP2 := Lib.hid hp
              have X7 := Lib.hid ((x7.weak (ok' := Old w3 (fun b => sb < b)) fun b hb hl => ⟨hb.1, hl⟩).ext HG.out.ext)
              replace x1 := kept HG.out.ext x1
              replace x2 := kept HG.out.ext x2
              have i1 : (0 : Int) ≤ (q : Int) := by omega
              have i2 : (q : Int) < (nL : Int) := by omega
              have hlen : ((L.take q).map (·.2)).length = q := by rw [List.length_map, List.length_take, ← HNL.out]; omega
              obtain ⟨Au, cu, eu, -⟩ := HG.out.row
              rw [hlen] at eu
              subst eu
              have EX := Lib.hid (ext_alloc (ext_alloc (Below.refl wr.heap.size wr) (.cells #[.int .i64 m1, .slice D p dd] 51)) (.cells #[.slice D p dd] 22))
              have X5 := Lib.hid (HG.out.move EX.out)
              have Y5 := Lib.hid (X5.out.fresh (j := Kd.i64.slice) (y := (nth L q).2) (fun b hb => hb.2) (slice_K HP2.out x5 x6 ((X7.out.ext EX.out).weak (ok' := Up (Old w3 (fun b => sb < b)) ((wr.alloc (.cells #[.int .i64 m1, .slice D p dd] 51)).alloc (.cells #[.slice D p dd] 22)).heap.size) fun b hb _ => .inl hb)))
              have o1 := Lib.hid (one_cell (wr.alloc (.cells #[.int .i64 m1, .slice D p dd] 51)) (.slice D p dd) 22 (s := wr.heap.size + 1) (by simp))
              have HLN := Lib.hid (show ((L.take q).map (·.2) ++ [(nth L q).2]).length = q + 1 from by rw [List.length_append, hlen]; rfl)
              clear hlen x7 hp hm1
              go_wp2_with (at_builtin; (refine wpList_push (k := Kd.i64.slice) rfl (.tmp 65) (.tmp 68) 35 rfl (.slice none 0 0) 24 Try.underlying35 info_r64 rfl (show 0 < 1 by omega) rfl X5.out.grow (nth L q).2 [.slice D p dd] Y5.out ⟨wr.heap.size + 1, 0, none⟩ 1 rfl o1.out (one_one _ _ _) (by rw [List.length_map, List.length_take]; omega) (by rw [List.length_map, List.length_take]; omega) X5.out.ext.size ?_); (intro v' w6 hg6 hr6 hv6; obtain ⟨A7, c7, e7, -⟩ := (hg6.weak (ok' := All) fun _ _ _ => trivial).row (fun _ _ => trivial); rw [HLN.out] at e7; subst e7; have G6 := Lib.hid (X5.out.push hg6 hr6); clear hg6 hr6 hv6))
              go_roundw
              case rel => exact ⟨q + 1, by omega, by go_num, Lib.hid (by rw [take_step L q (by rw [← HNL.out]; exact hlt2), List.map_append, List.map_singleton]; exact G6.out)⟩
              case measure => simp [intOf] <;> omega
          · obtain rfl : q = nL := by omega
            have e1 : L.take q = L := by rw [HNL.out, List.take_length]
            rw [e1] at HG
            have HGX := Lib.hid (ext_trans B3.out HG.out.ext)
            obtain ⟨A9, c9, rfl, z1, z2, z3⟩ := HG.out.row
            rw [List.length_map] at z1
            have ZZ := Lib.hid (And.intro z1 (And.intro z2 (z3.weak (ok' := fun b => w.heap.size ≤ b) fun b hb _ => by
              rcases hb with hb | hb
              · have h1 := hb.1; have h2 := HS.out.ge; omega
              · have := B3.out.size; omega)))
            rw [List.length_map, ← HNL.out]
            go_wp2
            exact HP.out _ _ ⟨by rw [if_pos HF.out]; exact ⟨A9, c9, L, PL.out, ZZ.out, by rw [← HNL.out]; rfl⟩, HGX.out⟩
  · have HC := Lib.hid (show srtB h l = false from by rw [srtB, hr]; rfl)
    rw [hr] at IR
    clear hr
    go_enter Try.func15, Try.ntmps15
    go_wp2_with (go_at_call 23; refine IR.out.mono ?_; rintro e w1 ⟨rfl, hb⟩; have B1 := Lib.hid hb; clear hb)
    exact HP.out _ _ ⟨by rw [if_neg (by rw [HC.out]; decide)] <;> rfl, B1.out⟩
end Go.Proofs.Ythibocafjkbeeaa
/-
  The reference's content and canonical sign. Condition: the bytes of the argument stay below a given bound.
-/
namespace Go.Proofs.Ythibocafjkbeeaa
open Go.RowKit

set_option maxRecDepth 100000 in
set_option maxHeartbeats 1000000 in
theorem rContent_any (ok : Nat → Prop) (A : Option Addr) (n c : Nat) (xs : List Int) (w : World) (hn : n = xs.length) (h1 : Row Kd.i64 w ok A xs) :
    Calls Try.prog 13 #[.slice A n c] w fun e w' => e = .returned (.int .u64 ((cont 0 xs : Nat) : Int)) ∧ Drawn w w' := by
  refine veil fun R HP => ?_
  have hl := h1.1
  rw [← hn] at hl
  have H1 := Lib.hid h1
  have HN := Lib.hid hn
  clear h1 hn
  go_enter Try.func13, Try.ntmps13
  go_wp2
  go_loopw [3, 9] (fun u i w' => ∃ k : Nat, k ≤ n ∧ i = .int .i64 (k : Int) ∧ u = .int .u64 ((cont 0 (xs.take k) : Nat) : Int) ∧ Hid (Drawn w w')) (fun _ i _ => n - (intOf i).toNat)
  case atStart => exact ⟨0, by omega, by go_num, rfl, Lib.hid (drawn_refl w)⟩
  case round =>
    obtain ⟨k, hk, rfl, rfl, HW⟩ := hrel
    by_cases hlt : k < n
    · obtain ⟨ad, rfl, c1, x1, x2⟩ := (H1.out.ext (drawn_ext HW.out)).num (i := k) (by rw [← HN.out]; exact hlt)
      obtain ⟨x, hx⟩ : ∃ x, x = nth xs k := ⟨_, rfl⟩
      rw [← hx] at c1 x1 x2
      have HX := Lib.hid hx
      have HT := Lib.hid (cont_take xs k (by rw [← HN.out]; exact hlt))
      have hg := cont_le xs H1.out.nums k (by rw [← HN.out]; omega)
      obtain ⟨g, hgg⟩ : ∃ g, g = cont 0 (xs.take k) := ⟨_, rfl⟩
      rw [← hgg] at hg HT ⊢
      clear hx hgg
      by_cases hneg : x < 0
      · have t1 : decide (x < 0) = true := decide_eq_true hneg
        go_wp2
        clear c1
        go_loopw [3, 6] (fun u v w' => ∃ a b : Nat, u = .int .u64 (a : Int) ∧ v = .int .u64 (b : Int) ∧ a ≤ 9223372036854775808 ∧ b ≤ 9223372036854775808 ∧ Hid (Nat.gcd a b = Nat.gcd g x.natAbs) ∧ Hid (Drawn w w')) (fun _ v _ => (intOf v).toNat)
        case atStart => exact ⟨g, x.natAbs, rfl, by rw [show IntKind.u64.wrap (-IntKind.u64.wrap x) = ((x.natAbs : Nat) : Int) from by rw [IntKind.wrap_u64, IntKind.wrap_u64]; omega], hg, by omega, Lib.hid rfl, HW⟩
        case round =>
          obtain ⟨a, b, rfl, rfl, ha, hb, HG, hv⟩ := hrel
          clear t1
          by_cases h0 : 0 < b
          · have t2 : ((b : Int) != 0) = true := by simp; omega
            have j1 : (0 : Int) ≤ (a : Int) := by omega
            have j2 : (0 : Int) < (b : Int) := by omega
            have j3 : ((b : Int) == 0) = false := by simp; omega
            have j4 : ¬ ((b : Int) = 0) := by omega
            go_wp2
            go_quiet (fail)
            go_wp2
            go_roundw
            case rel => exact ⟨b, a % b, rfl, by first | rfl | (rw [Int.tmod_eq_emod_of_nonneg (by omega)]; rfl), hb, by have := Nat.mod_lt a h0; omega, Lib.hid (by rw [Nat.gcd_comm, ← Nat.gcd_rec, Nat.gcd_comm]; exact HG.out), by first | exact hv | exact Lib.hid (drawn_step hv.out _) | exact Lib.hid (drawn_step (drawn_step hv.out _) _)⟩
            case measure =>
              have := Nat.mod_lt a h0
              simp [intOf]
              first | omega | (rw [Int.tmod_eq_emod_of_nonneg (by omega)]; omega)
          · obtain rfl : b = 0 := by omega
            have HE := Lib.hid (show a = cont 0 (xs.take (k + 1)) from by rw [HT.out, ← HX.out, ← HG.out, Nat.gcd_zero_right])
            have t2 : (((0 : Nat) : Int) != 0) = false := by decide
            go_wp2
            go_roundw
            case rel => exact ⟨k + 1, by omega, by go_num, by rw [← HE.out], hv⟩
            case measure => simp [intOf] <;> omega
      · have t1 : decide (x < 0) = false := decide_eq_false hneg
        go_wp2
        clear c1
        go_loopw [3, 6] (fun u v w' => ∃ a b : Nat, u = .int .u64 (a : Int) ∧ v = .int .u64 (b : Int) ∧ a ≤ 9223372036854775808 ∧ b ≤ 9223372036854775808 ∧ Hid (Nat.gcd a b = Nat.gcd g x.natAbs) ∧ Hid (Drawn w w')) (fun _ v _ => (intOf v).toNat)
        case atStart => exact ⟨g, x.natAbs, rfl, by rw [show x = ((x.natAbs : Nat) : Int) from by omega, Int.natAbs_natCast], hg, by omega, Lib.hid rfl, HW⟩
        case round =>
          obtain ⟨a, b, rfl, rfl, ha, hb, HG, hv⟩ := hrel
          clear t1
          by_cases h0 : 0 < b
          · have t2 : ((b : Int) != 0) = true := by simp; omega
            have j1 : (0 : Int) ≤ (a : Int) := by omega
            have j2 : (0 : Int) < (b : Int) := by omega
            have j3 : ((b : Int) == 0) = false := by simp; omega
            have j4 : ¬ ((b : Int) = 0) := by omega
            go_wp2
            go_quiet (fail)
            go_wp2
            go_roundw
            case rel => exact ⟨b, a % b, rfl, by first | rfl | (rw [Int.tmod_eq_emod_of_nonneg (by omega)]; rfl), hb, by have := Nat.mod_lt a h0; omega, Lib.hid (by rw [Nat.gcd_comm, ← Nat.gcd_rec, Nat.gcd_comm]; exact HG.out), by first | exact hv | exact Lib.hid (drawn_step hv.out _) | exact Lib.hid (drawn_step (drawn_step hv.out _) _)⟩
            case measure =>
              have := Nat.mod_lt a h0
              simp [intOf]
              first | omega | (rw [Int.tmod_eq_emod_of_nonneg (by omega)]; omega)
          · obtain rfl : b = 0 := by omega
            have HE := Lib.hid (show a = cont 0 (xs.take (k + 1)) from by rw [HT.out, ← HX.out, ← HG.out, Nat.gcd_zero_right])
            have t2 : (((0 : Nat) : Int) != 0) = false := by decide
            go_wp2
            go_roundw
            case rel => exact ⟨k + 1, by omega, by go_num, by rw [← HE.out], hv⟩
            case measure => simp [intOf] <;> omega
    · obtain rfl : k = n := by omega
      have HE := Lib.hid (show cont 0 (xs.take k) = cont 0 xs from by rw [HN.out, List.take_length])
      rw [HE.out]
      go_wp2
      exact HP.out _ _ ⟨rfl, HW.out⟩
theorem sgnL_snoc : ∀ (ys : List Int) (z : Int), sgnL (ys ++ [z]) = if sgnL ys = 0 then z.sign else sgnL ys
  | [], z => by
    show (if z = 0 then sgnL [] else z.sign) = _
    by_cases h : z = 0
    · subst h; rfl
    · rw [if_neg h]
      show z.sign = if (0 : Int) = 0 then z.sign else 0
      rw [if_pos rfl]
  | y :: ys, z => by
    show (if y = 0 then sgnL (ys ++ [z]) else y.sign) = if (if y = 0 then sgnL ys else y.sign) = 0 then z.sign else if y = 0 then sgnL ys else y.sign
    by_cases h : y = 0
    · rw [if_pos h, if_pos h]; exact sgnL_snoc ys z
    · have : y.sign ≠ 0 := fun e => h (Int.sign_eq_zero_iff_zero.1 e)
      rw [if_neg h, if_neg h, if_neg this]
theorem sgnL_step {xs : List Int} {k : Nat} (h : k < xs.length) : sgnL (xs.take (k + 1)) = if sgnL (xs.take k) = 0 then (nth xs k).sign else sgnL (xs.take k) := by
  rw [take_step xs k h, sgnL_snoc]
set_option maxRecDepth 100000 in
set_option maxHeartbeats 1000000 in
theorem rCanon_any (ok : Nat → Prop) (A : Option Addr) (n c : Nat) (xs : List Int) (w : World) (hn : n = xs.length) (hb : n * 8 ≤ 140737488355328) (h1 : Row Kd.i64 w ok A xs) :
    Calls Try.prog 11 #[.slice A n c] w fun e w' => (if canB xs = true then ∃ v, Grow Kd.i64 w' w.heap.size 2 All v (can xs) ∧ e = .returned (.tuple #[v, .bool true]) else e = .returned (.tuple #[.slice none 0 0, .bool false])) ∧ Below w.heap.size w w' := by
  refine veil fun R HP => ?_
  have hl := h1.1
  rw [← hn] at hl
  have H1 := Lib.hid h1
  have HN := Lib.hid hn
  clear h1 hn
  have IT := Lib.hid (inside_any ok A n c xs w HN.out H1.out)
  rcases Bool.eq_false_or_eq_true (inB xs) with hi | hi
  · have HI := Lib.hid hi
    rw [hi] at IT
    clear hi
    go_enter Try.func11, Try.ntmps11
    go_wp2_with (go_at_call 21; refine IT.out.mono ?_; rintro e w' ⟨rfl, rfl⟩)
    go_loop [4, 15] (fun u i => ∃ (k : Nat) (s : Int), k ≤ n ∧ u = .int .i64 s ∧ i = .int .i64 (k : Int) ∧ Hid (s = sgnL (xs.take k))) (fun _ i => n - (intOf i).toNat)
    case atStart => exact ⟨0, 0, by omega, by go_num, by go_num, Lib.hid rfl⟩
    case round =>
      obtain ⟨k, s, hk, rfl, rfl, HK⟩ := hrel
      by_cases hlt : k < n
      · obtain ⟨ad, rfl, c1, x1, x2⟩ := H1.out.num (i := k) (by rw [← HN.out]; exact hlt)
        obtain ⟨x, hx⟩ : ∃ x, x = nth xs k := ⟨_, rfl⟩
        rw [← hx] at c1 x1 x2
        have ST := Lib.hid (sgnL_step (xs := xs) (k := k) (by rw [← HN.out]; exact hlt))
        have HX := Lib.hid hx
        clear hx
        by_cases hs : s = 0
        · subst hs
          by_cases h0 : x = 0
          · have t1 : (x != 0) = false := by simp [h0]
            have HS := Lib.hid (show (0 : Int) = sgnL (xs.take (k + 1)) from by rw [ST.out, if_pos HK.out.symm, ← HX.out, h0]; rfl)
            clear h0
            go_wp2
            go_round
            case rel => exact ⟨k + 1, 0, by omega, by go_num, by go_num, HS⟩
            case measure => simp [intOf] <;> omega
          · have t1 : (x != 0) = true := by simp [h0]
            by_cases hneg : x < 0
            · have t2 : decide (x < 0) = true := decide_eq_true hneg
              have HS := Lib.hid (show (-1 : Int) = sgnL (xs.take (k + 1)) from by rw [ST.out, if_pos HK.out.symm, ← HX.out, Int.sign_eq_neg_one_of_neg hneg])
              clear h0 hneg
              go_wp2
              go_round
              case rel => exact ⟨k + 1, -1, by omega, by go_num, by go_num, HS⟩
              case measure => simp [intOf] <;> omega
            · have t2 : decide (x < 0) = false := decide_eq_false hneg
              have HS := Lib.hid (show (1 : Int) = sgnL (xs.take (k + 1)) from by rw [ST.out, if_pos HK.out.symm, ← HX.out, Int.sign_eq_one_of_pos (by omega)])
              clear h0 hneg
              go_wp2
              go_round
              case rel => exact ⟨k + 1, 1, by omega, by go_num, by go_num, HS⟩
              case measure => simp [intOf] <;> omega
        · have t1 : (s == 0) = false := by simpa using hs
          have HS := Lib.hid (show s = sgnL (xs.take (k + 1)) from by rw [ST.out, if_neg (by rw [← HK.out]; exact hs)]; exact HK.out)
          clear hs
          go_wp2
          go_round
          case rel => exact ⟨k + 1, s, by omega, by go_num, by go_num, HS⟩
          case measure => simp [intOf] <;> omega
      · obtain rfl : k = n := by omega
        have HS := Lib.hid (show s = sgnL xs from by rw [HK.out, HN.out, List.take_length])
        by_cases hs : s = 0
        · have t1 : (s == 0) = true := by simpa using hs
          have HC := Lib.hid (show canB xs = false from by rw [canB, ← HS.out, hs]; simp)
          clear hs
          go_wp2
          exact HP.out _ _ ⟨by rw [if_neg (by rw [HC.out]; decide)] <;> rfl, Below.refl _ _⟩
        · have t1 : (s == 0) = false := by simpa using hs
          have HC := Lib.hid (show canB xs = true from by rw [canB, HI.out, ← HS.out]; simp [hs])
          have s3 : s = 1 ∨ s = -1 := by
            rcases sgnL_cases xs with e | e | e <;> rw [← HS.out] at e
            · exact absurd e hs
            · exact .inl e
            · exact .inr e
          have S3 := Lib.hid s3
          clear hs s3
          go_wp2
          go_loopw [7, 32] (fun u i w' => ∃ q : Nat, q ≤ k ∧ i = .int .i64 (q : Int) ∧ Hid (LG Kd.i64 2 w w' (fun _ => False) u ((can xs).take q))) (fun _ i _ => k - (intOf i).toNat)
          case atStart => exact ⟨0, by omega, by go_num, Lib.hid (LG.nil (Below.refl _ _))⟩
          case round =>
            obtain ⟨q, hq, rfl, HG⟩ := hrel
            by_cases hlt : q < k
            · obtain ⟨ad, rfl, c1, x1, x2⟩ := (H1.out.ext HG.out.ext).num (i := q) (by rw [← HN.out]; exact hlt)
              have hy := inB_at HI.out q (by rw [← HN.out]; exact hlt)
              obtain ⟨x, hx⟩ : ∃ x, x = nth xs q := ⟨_, rfl⟩
              rw [← hx] at c1 x1 x2 hy
              have HX := Lib.hid hx
              have hz : -9223372036854775808 ≤ s * x ∧ s * x ≤ 9223372036854775807 := by
                rcases S3.out with e | e <;> rw [e] <;> omega
              have z1 : IntKind.i64.wrap (s * x) = s * x := wrap_small _ hz.1 hz.2
              have HZ := Lib.hid (show nth (can xs) q = s * x from by rw [can_nth xs q (by rw [← HN.out]; exact hlt), ← HS.out, ← HX.out])
              have hlen : ((can xs).take q).length = q := by rw [List.length_take, can_length, ← HN.out]; omega
              obtain ⟨Au, cu, eu, -⟩ := HG.out.row
              rw [hlen] at eu
              subst eu
              obtain ⟨y, hyy⟩ : ∃ y, y = s * x := ⟨_, rfl⟩
              rw [← hyy] at hz
              have HYY := Lib.hid hyy
              have EX := Lib.hid (ext_alloc (Below.refl wr.heap.size wr) (.cells #[.int .i64 (s * x)] 2))
              have X5 := Lib.hid (HG.out.move EX.out)
              have Y5 := Lib.hid (show Kd.i64.K (wr.alloc (.cells #[.int .i64 (s * x)] 2)) (fun b => Up (fun _ => False) w.heap.size b ∧ (Value.slice Au q cu).ownBlock ≠ some b) (s * x) [.int .i64 (s * x)] from ⟨rfl, by rw [← HYY.out]; exact hz⟩)
              have o1 := Lib.hid (one_cell wr (.int .i64 (s * x)) 2 (s := wr.heap.size) rfl)
              have HLN := Lib.hid (show ((can xs).take q ++ [s * x]).length = q + 1 from by rw [List.length_append, hlen]; rfl)
              clear hlen hx hy hz hyy
              go_wp2_with (at_builtin; (refine wpList_push (k := Kd.i64) rfl (.tmp 36) (.tmp 40) 22 rfl (.int .i64 0) 8 Try.underlying22 info_num rfl (show 0 < 1 by omega) rfl X5.out.grow (s * x) [.int .i64 (s * x)] Y5.out ⟨wr.heap.size, 0, none⟩ 1 rfl o1.out (fun u hu => by rcases List.mem_cons.1 hu with rfl | hu; rfl; cases hu) (by rw [List.length_take]; omega) (by rw [List.length_take]; omega) X5.out.ext.size ?_); (intro v' w6 hg6 hr6 hv6; obtain ⟨A7, c7, e7, -⟩ := (hg6.weak (ok' := All) fun _ _ _ => trivial).row (fun _ _ => trivial); rw [HLN.out] at e7; subst e7; have G6 := Lib.hid (X5.out.push hg6 hr6); clear hg6 hr6 hv6))
              go_roundw
              case rel => exact ⟨q + 1, by omega, by go_num, Lib.hid (by rw [take_step (can xs) q (by rw [can_length, ← HN.out]; exact hlt), HZ.out]; exact G6.out)⟩
              case measure => simp [intOf] <;> omega
            · obtain rfl : q = k := by omega
              have HE := Lib.hid (show (can xs).take q = can xs from by rw [HN.out, ← can_length xs, List.take_length])
              have HGX := Lib.hid (HG.out.grow.weak (ok' := All) fun _ _ _ => trivial)
              rw [HE.out] at HGX
              go_wp2
              exact HP.out _ _ ⟨by rw [if_pos HC.out]; exact ⟨_, HGX.out, rfl⟩, HG.out.ext⟩
  · have HC := Lib.hid (show canB xs = false from by rw [canB, hi]; rfl)
    rw [hi] at IT
    clear hi
    go_enter Try.func11, Try.ntmps11
    go_wp2_with (go_at_call 21; refine IT.out.mono ?_; rintro e w' ⟨rfl, rfl⟩)
    exact HP.out _ _ ⟨by rw [if_neg (by rw [HC.out]; decide)] <;> rfl, Below.refl _ _⟩
end Go.Proofs.Ythibocafjkbeeaa
/-
  The reference's tape and vector: what they return. Condition: at most 65536 numbers are asked for.
-/
namespace Go.Proofs.Ythibocafjkbeeaa
open Go.RowKit

theorem Row.num8 {w : World} {ok : Nat → Prop} {A : Option Addr} {xs : List Int} (h : Row Kd.i8 w ok A xs) {i : Nat} (hi : i < xs.length) : ∃ ad, A = some ad ∧ w.cell? (ad.add i) = some (.int .i8 (nth xs i)) ∧ -128 ≤ nth xs i ∧ nth xs i ≤ 127 := by
  obtain ⟨ad, cs, e, _, _, ⟨rfl, h1, h2⟩, hc⟩ := h.at_ hi
  refine ⟨ad, e, ?_, h1, h2⟩
  have := hc 0 _ rfl
  simpa [Kd.i8] using this
theorem Row.nums8 {w : World} {ok : Nat → Prop} {A : Option Addr} {xs : List Int} (h : Row Kd.i8 w ok A xs) (i : Nat) : -128 ≤ nth xs i ∧ nth xs i ≤ 127 := by
  by_cases hi : i < xs.length
  · obtain ⟨_, _, _, h1, h2⟩ := h.num8 hi
    exact ⟨h1, h2⟩
  · have : nth xs i = 0 := by simp [nth, List.getD_eq_getElem?_getD, List.getElem?_eq_none (Nat.not_lt.1 hi)]
    omega
theorem grown_cell (w : World) (b i : Nat) (v : Value) : w.grownBy ((w.setCell ⟨b, i, none⟩ v).drew.drew) (some b) :=
  ⟨rfl, rfl, rfl, by simp [World.setCell, World.drew], fun k _ hb => Below.heap_setCell w ⟨b, i, none⟩ v k fun e => hb (by rw [e])⟩
set_option maxRecDepth 100000 in
set_option maxHeartbeats 1000000 in
theorem next_tape (ok : Nat → Prop) (A : Option Addr) (n c tb j : Nat) (xs : List Int) (w : World) (hn : n = xs.length) (h1 : Row Kd.i8 w ok A xs) (ho : Own w tb 43 [.slice A n c, .int .i64 ((min j n : Nat) : Int)]) (hne : ∀ b, ok b → b ≠ tb) :
    Calls Try.prog 18 #[.pointer (some ⟨tb, 0, none⟩)] w fun e w' => e = .returned (.int .i64 (nth xs j)) ∧ Own w' tb 43 [.slice A n c, .int .i64 ((min (j + 1) n : Nat) : Int)] ∧ w.grownBy w' (some tb) := by
  refine veil fun R HP => ?_
  have hl := h1.1
  rw [← hn] at hl
  have H1 := Lib.hid h1
  have HN := Lib.hid hn
  have HO := Lib.hid ho
  have c0 : w.cell? ⟨tb, 0, none⟩ = some (.slice A n c) := ho.cell 0
  have c1 : w.cell? ⟨tb, 1, none⟩ = some (.int .i64 ((min j n : Nat) : Int)) := ho.cell 1
  have f1 := ho.free 1
  have NE := Lib.hid hne
  clear h1 hn ho hne
  by_cases hlt : j < n
  · obtain ⟨ad, cs, rfl, hokb, _, ⟨rfl, x1, x2⟩, hc⟩ := H1.out.at_ (i := j) (by rw [← HN.out]; exact hlt)
    have d1 : w.cell? (ad.add j) = some (.int .i8 (nth xs j)) := by
      have := hc 0 _ rfl
      simpa [Kd.i8] using this
    have hadb : ad.block ≠ tb := NE.out _ hokb
    have HE := Lib.hid (show ((min (j + 1) n : Nat) : Int) = (j : Int) + 1 from by omega)
    have HM := Lib.hid (show ((min j n : Nat) : Int) = (j : Int) from by omega)
    rw [HE.out] at HP
    rw [HM.out] at c1 HO
    obtain ⟨x, hx⟩ : ∃ x, x = nth xs j := ⟨_, rfl⟩
    rw [← hx] at d1 x1 x2 HP
    have CC := Lib.hid (And.intro c0 (And.intro c1 d1))
    have FA := Lib.hid (show ∀ W : World, W.heap = w.heap → W.frozen? ⟨tb, 1, none⟩ = false from fun W h => by rw [← f1]; simp [World.frozen?, h])
    have KP := Lib.hid (show ∀ (W : World), W.heap = w.heap → (W.setCell ⟨tb, 1, none⟩ (.int .i64 ((j : Int) + 1))).cell? (ad.add j) = some (.int .i8 x) from fun W h => set_far (show tb ≠ (ad.add j).block from by rw [show (ad.add j).block = ad.block from by unfold Addr.add; split <;> rfl]; exact fun e => hadb e.symm) ((show W.cell? (ad.add j) = w.cell? (ad.add j) from by simp [World.cell?, h]).trans CC.out.2.2))
    have i1 : (0 : Int) ≤ (j : Int) := by omega
    have i2 : (j : Int) < (n : Int) := by omega
    have z1 : IntKind.i64.wrap x = x := wrap_small _ (by omega) (by omega)
    have z2 : IntKind.i64.wrap (j : Int) = (j : Int) := wrap_small _ (by omega) (by omega)
    have z3 : IntKind.i64.wrap ((j : Int) + 1 - 1) = (j : Int) := by rw [wrap_small _ (by omega) (by omega)]; omega
    have i4 : decide ((n : Int) ≤ (j : Int)) = false := decide_eq_false (by omega)
    clear hx hc d1
    go_enter Try.func18, Try.ntmps18
    go_wp2
    go_region_held3 (fun w' => w'.cell? ⟨tb, 0, none⟩ = some (.slice (some ad) n c) ∧ w'.cell? ⟨tb, 1, none⟩ = some (.int .i64 (j : Int)))
      (first | exact ⟨CC.out.1, CC.out.2.1⟩)
      (fail)
    go_wp2
    have KQ := KP.out w rfl
    have c4 : (w.setCell ⟨tb, 1, none⟩ (.int .i64 ((j : Int) + 1))).cell? ⟨tb, 0, none⟩ = some (.slice (some ad) n c) := set_apart (by simp) CC.out.1
    go_region_held3 (fun w' => w'.cell? ⟨tb, 0, none⟩ = some (.slice (some ad) n c) ∧ w'.cell? ⟨tb, 1, none⟩ = some (.int .i64 ((j : Int) + 1)) ∧ w'.cell? (ad.add j) = some (.int .i8 x))
      (first | exact ⟨c4, (HO.out.set_ 1 (.int .i64 ((j : Int) + 1))).cell 1, KQ⟩)
      (fail)
    go_wp2
    exact HP.out _ _ ⟨rfl, HO.out.set_ 1 (.int .i64 ((j : Int) + 1)), grown_cell w tb 1 _⟩
  · have HX := Lib.hid (show nth xs j = 0 from by simp [nth, List.getD_eq_getElem?_getD, List.getElem?_eq_none (show xs.length ≤ j from by rw [← HN.out]; omega)])
    have HE := Lib.hid (show ((min (j + 1) n : Nat) : Int) = (n : Int) from by omega)
    have HM := Lib.hid (show ((min j n : Nat) : Int) = (n : Int) from by omega)
    rw [HE.out, HX.out] at HP
    rw [HM.out] at c1 HO
    have CC := Lib.hid (And.intro c0 c1)
    go_enter Try.func18, Try.ntmps18
    go_wp2
    go_region_held3 (fun w' => w'.cell? ⟨tb, 0, none⟩ = some (.slice A n c) ∧ w'.cell? ⟨tb, 1, none⟩ = some (.int .i64 (n : Int)))
      (first | exact CC.out)
      (fail)
    go_wp2
    exact HP.out _ _ ⟨rfl, HO.out, ⟨rfl, rfl, rfl, Nat.le_refl _, fun _ _ _ => rfl⟩⟩
def vecL (xs : List Int) (m : Nat) : List Int := (List.range m).map fun i => nth xs i
theorem vecL_length (xs : List Int) (m : Nat) : (vecL xs m).length = m := by simp [vecL]
theorem nth_vecL (xs : List Int) (m i : Nat) (h : i < m) : nth (vecL xs m) i = nth xs i := nth_map_range _ _ _ h
set_option maxRecDepth 100000 in
set_option maxHeartbeats 1000000 in
theorem vector_any (ok : Nat → Prop) (A : Option Addr) (n c m : Nat) (xs : List Int) (w : World) (hm : m ≤ 65536) (hn : n = xs.length) (h1 : Row Kd.i8 w ok A xs) :
    Calls Try.prog 9 #[.slice A n c, .int .i64 (m : Int)] w fun e w' => ∃ g, e = .returned (.slice (some ⟨g, 0, none⟩) m m) ∧ Own w' g 2 (ints (vecL xs m)) ∧ In64 (vecL xs m) ∧ w.heap.size ≤ g ∧ Below w.heap.size w w' := by
  refine veil fun R HP => ?_
  have hmk : ∀ W : World, (Instr.makeSlice 22 (.int .i64 (m : Int)) (.int .i64 (m : Int))).run Try.prog W = .ok (.slice (some ⟨W.heap.size, 0, none⟩) m m) (W.alloc (.cells (madeCells #[.int .i64 0] m) 2)) := fun W => by
    have := make_n (P := Try.prog) 22 2 (.int .i64 0) 1 8 Try.underlying22 info_num m (by omega) (by omega) W
    rwa [Nat.mul_one] at this
  have B0 := Lib.hid (ext_alloc (ext_alloc (Below.refl w.heap.size w) (.cells #[.slice A n c, .int .i64 0] 43)) (.cells (madeCells #[.int .i64 0] m) 2))
  have T0 := Lib.hid ((Own.new w 43 #[.slice A n c, .int .i64 0]).ext (ext_alloc (Below.refl _ _) (.cells (madeCells #[.int .i64 0] m) 2)))
  have O0 := Lib.hid (show Own ((w.alloc (.cells #[.slice A n c, .int .i64 0] 43)).alloc (.cells (madeCells #[.int .i64 0] m) 2)) (w.heap.size + 1) 2 (ints (List.replicate m 0)) from by
    have := Own.new (w.alloc (.cells #[.slice A n c, .int .i64 0] 43)) 2 (madeCells #[.int .i64 0] m)
    rw [made_toList] at this
    simpa [ints] using this)
  have H1 := Lib.hid (h1.weak (ok' := fun b => b < w.heap.size) fun b _ hb => hb)
  have HN := Lib.hid hn
  have HI := Lib.hid (fun i => h1.nums8 i)
  clear h1 hn
  go_enter Try.func9, Try.ntmps9
  go_wp2
  clear hmk
  go_loopw [15] (fun i w' => ∃ (j : Nat) (ys : List Int), j ≤ m ∧ i = .int .i64 (j : Int) ∧ Hid (Own w' w.heap.size 43 [.slice A n c, .int .i64 ((min j n : Nat) : Int)]) ∧ Hid (ys.length = m ∧ Own w' (w.heap.size + 1) 2 (ints ys) ∧ Below w.heap.size w w' ∧ In64 ys ∧ ∀ i, i < j → nth ys i = nth xs i)) (fun i _ => m - (intOf i).toNat)
  case atStart => exact ⟨0, List.replicate m 0, by omega, by go_num, Lib.hid (by rw [Nat.zero_min]; exact T0.out), Lib.hid ⟨by simp, O0.out, B0.out, fun x hx => by rw [List.eq_of_mem_replicate hx]; omega, fun i hi => by omega⟩⟩
  case round =>
    obtain ⟨j, ys, hj, rfl, HT, HY⟩ := hrel
    by_cases hlt : j < m
    · have NX := Lib.hid (next_tape (fun b => b < w.heap.size) A n c w.heap.size j xs wr HN.out (H1.out.ext HY.out.2.2.1) HT.out (fun b hb e => by omega))
      have i1 : (0 : Int) ≤ (j : Int) := by omega
      have i2 : (j : Int) < (m : Int) := by omega
      go_wp2_with fail
      with_reducible refine NX.out.mono ?_
      rintro e w2 ⟨rfl, ht, hgr⟩
      have O2 := Lib.hid (HY.out.2.1.keep (hgr.block (w.heap.size + 1) HY.out.2.1.lt (fun e => by have e2 : w.heap.size + 1 = w.heap.size := Option.some.inj e; omega)))
      have T2 := Lib.hid ht
      have B2 := Lib.hid (ext_grown HY.out.2.2.1 hgr fun k e => by have e2 : w.heap.size = k := Option.some.inj e; omega)
      obtain ⟨x, hx⟩ : ∃ x, x = nth xs j := ⟨_, rfl⟩
      rw [← hx]
      have HX := Lib.hid hx
      have d1 : w2.cell? ⟨w.heap.size + 1, j, none⟩ = some (.int .i64 (nth ys j)) := by rw [O2.out.cell, ints_at _ _ (by have := HY.out.1; omega)]
      have f1 := O2.out.free j
      clear ht hgr hx NX
      go_wp2
      go_roundw
      case rel =>
        obtain ⟨g1, -, -, g4, g5⟩ := HY.out
        have hxb := HI.out j
        rw [← HX.out] at hxb
        refine ⟨j + 1, ys.set j x, by omega, by go_num, Lib.hid (T2.out.keep (Below.heap_setCell w2 _ _ _ (by simp))), Lib.hid ⟨by rw [List.length_set]; exact g1, by rw [← ints_set]; exact O2.out.set_ j _, ext_set B2.out (Nat.le_succ _) _, g4.set_ j (by omega) (by omega), fun i hi => ?_⟩⟩
        by_cases e : i = j
        · subst e; rw [nth_eq _ _ (by rw [List.length_set]; omega), List.getElem_set_self]; exact HX.out
        · rw [nth_set_other _ _ _ _ (by omega)]; exact g5 i (by omega)
      case measure => simp [intOf] <;> omega
    · obtain rfl : j = m := by omega
      have E := Lib.hid (show ys = vecL xs j from by
        obtain ⟨h1, h2, h3, h4, h5⟩ := HY.out
        refine List.ext_getElem (by rw [h1, vecL_length]) fun i hi hi2 => ?_
        have := h5 i (by omega)
        rw [nth_eq _ _ hi] at this
        rw [this, ← nth_vecL xs j i (by omega), nth_eq _ _ hi2])
      go_wp2
      exact HP.out _ _ ⟨_, rfl, by rw [← E.out]; exact HY.out.2.1, by rw [← E.out]; exact HY.out.2.2.2.1, Nat.le_succ _, HY.out.2.2.1⟩
end Go.Proofs.Ythibocafjkbeeaa
/-
  The sanity check of chapter 9: it returns true. No condition.
-/
namespace Go.Proofs.Ythibocafjkbeeaa
open Go.RowKit

def smB (z : Int) : Bool := decide (z.natAbs < 4294967296 ^ 16)
theorem smB_ok {z : Int} (h : smB z = true) : Sm z := Sm_of (of_decide_eq_true h)
def divB (m n : Nat) : Bool := decide (n < 4294967296) || decide (m < n)
theorem divB_ok {m n : Nat} (h : divB m n = true) : DivCan m n := by
  rw [divB, Bool.or_eq_true] at h
  rcases h with h | h
  · exact .inl (lc_le (L := 1) (by rw [Nat.pow_one]; exact of_decide_eq_true h))
  · exact .inr (of_decide_eq_true h)
def allN (n : Nat) (f : Nat → Bool) : Bool := (List.range n).all f
theorem allN_at {n : Nat} {f : Nat → Bool} (h : allN n f = true) (i : Nat) (hi : i < n) : f i = true := List.all_eq_true.1 h i (List.mem_range.2 hi)
def detOkB (n : Nat) : Nat → Nat → (Nat → Nat → Int) → Int → Bool
  | 0, _, _, last => smB last
  | d + 1, k, M, last =>
    (last != 0) && (smB last && (allN n (fun i => allN n fun j => smB (M i j)) &&
      ((firstRow M k (d + 1) k == k + (d + 1)) || (
        allN n (fun i => allN n fun j => !decide (k < i) || (!decide (k < j) || (let M1 := if firstRow M k (d + 1) k = k then M else swp M (firstRow M k (d + 1) k) k; smB (M1 k k * M1 i j) && (smB (M1 i k * M1 k j) && (smB (M1 k k * M1 i j - M1 i k * M1 k j) && divB (M1 k k * M1 i j - M1 i k * M1 k j).natAbs last.natAbs))))) &&
        (let M1 := if firstRow M k (d + 1) k = k then M else swp M (firstRow M k (d + 1) k) k; detOkB n d (k + 1) (elm M1 k last) (M1 k k))))))
theorem detOkB_ok (n : Nat) : ∀ (d k : Nat) (M : Nat → Nat → Int) (last : Int), detOkB n d k M last = true → DetOk n d k M last
  | 0, _, _, _, h => smB_ok h
  | d + 1, k, M, last, h => by
    rw [detOkB] at h
    simp only [Bool.and_eq_true, Bool.or_eq_true, bne_iff_ne, ne_eq, beq_iff_eq] at h
    obtain ⟨h1, h2, h3, h4⟩ := h
    rw [DetOk]
    refine ⟨h1, smB_ok h2, fun i j hi hj => smB_ok (allN_at (allN_at h3 i hi) j hj), fun hne => ?_⟩
    rcases h4 with h4 | ⟨h4, h5⟩
    · exact absurd h4 hne
    · refine ⟨fun i j hk hi hk2 hj => ?_, detOkB_ok n d _ _ _ h5⟩
      have := allN_at (allN_at h4 i hi) j hj
      simp only [Bool.or_eq_true, Bool.not_eq_true', decide_eq_false_iff_not, Bool.and_eq_true] at this
      rcases this with h | h | ⟨g1, g2, g3, g4⟩
      · exact absurd hk h
      · exact absurd hk2 h
      · exact ⟨smB_ok g1, smB_ok g2, smB_ok g3, divB_ok g4⟩
def hexH : List (List Int) := [[2, 1], [1, 2]]
theorem two_cases {i : Nat} (h : i < 2) : i = 0 ∨ i = 1 := by omega
theorem hex_fm : FmOk hexH 2 where
  det := fun _ _ _ k h1 h2 => by
    rcases (show k = 1 ∨ k = 2 by omega) with rfl | rfl
    · exact detOkB_ok _ _ _ _ _ (by kernel_rfl)
    · exact detOkB_ok _ _ _ _ _ (by kernel_rfl)
  red := fun _ _ => {
    sm := fun i j hi hj => by rcases two_cases hi with rfl | rfl <;> rcases two_cases hj with rfl | rfl <;> exact smB_ok (by kernel_rfl)
    pv := fun k hk => by obtain rfl : k = 0 := by omega
                         decide
    nx := fun k hk => by
      obtain rfl : k = 0 := by omega
      exact {
        nz := by decide
        sl := smB_ok (by kernel_rfl)
        sm := fun i j hi hj => by rcases two_cases hi with rfl | rfl <;> rcases two_cases hj with rfl | rfl <;> exact smB_ok (by kernel_rfl)
        st := fun i j hi hj => by
          have hi2 : i + 1 < 2 := hi
          have hj2 : j + 1 < 2 := hj
          obtain rfl : i = 0 := by omega
          obtain rfl : j = 0 := by omega
          exact ⟨smB_ok (by kernel_rfl), smB_ok (by kernel_rfl), smB_ok (by kernel_rfl), divB_ok (by kernel_rfl)⟩ }
    nr := fun i j hi hj => by
      obtain rfl : i = 1 := by omega
      obtain rfl : j = 0 := by omega
      exact smB_ok (by kernel_rfl)
    lv := fun k hk => by
      obtain rfl : k = 0 := by omega
      exact { l := smB_ok (by kernel_rfl), d := smB_ok (by kernel_rfl), p := smB_ok (by kernel_rfl), q := smB_ok (by kernel_rfl), ll := smB_ok (by kernel_rfl), dd := smB_ok (by kernel_rfl), pq := smB_ok (by kernel_rfl), s := smB_ok (by kernel_rfl) } }
theorem hex_red : redB hexH = true := by kernel_rfl
def hexL : List (List Int) := [[-1, 1], [0, 2], [1, -1], [1, 0]]
theorem hex_srt : srtB hexH hexL = true := by kernel_rfl
theorem hex_out {L : List (Int × List Int)} (h1 : Asc L) (h2 : ∀ p, p ∈ L ↔ p ∈ hexL.map (srtP hexH)) : L = [(2, [1, -1]), (2, [1, 0]), (8, [0, 2])] := by
  refine asc_unique h1 ?_ fun p => (h2 p).trans ?_
  · unfold Asc; decide
  · rw [show hexL.map (srtP hexH) = [(2, [1, -1]), (8, [0, 2]), (2, [1, -1]), (2, [1, 0])] from by decide]
    exact ⟨fun h => (show ∀ p ∈ [((2 : Int), [(1 : Int), -1]), (8, [0, 2]), (2, [1, -1]), (2, [1, 0])], p ∈ [((2 : Int), [(1 : Int), -1]), (2, [1, 0]), (8, [0, 2])] from by decide) p h, fun h => (show ∀ p ∈ [((2 : Int), [(1 : Int), -1]), (2, [1, 0]), (8, [0, 2])], p ∈ [((2 : Int), [(1 : Int), -1]), (8, [0, 2]), (2, [1, -1]), (2, [1, 0])] from by decide) p h⟩
theorem Own.new_ {w : World} {s : Nat} (hs : w.heap.size = s) {t : TypeId} {cs : Array Value} : Own (w.alloc (.cells cs t)) s t cs.toList := by subst hs; exact Own.new w t cs
theorem lit_row {w : World} {s : Nat} (hs : w.heap.size = s) (x : List Int) (hx : (x.all fun z => decide (-9223372036854775808 ≤ z ∧ z ≤ 9223372036854775807)) = true) (hl : x.length ≤ 9223372036854775807 := by simp) : Row Kd.i64 (w.alloc (.cells (ints x).toArray 2)) All (some ⟨s, 0, none⟩) x :=
  Own.introw (T := 2) (by have := Own.new_ hs (t := 2) (cs := (ints x).toArray); exact this) (fun z hz => by have := List.all_eq_true.1 hx z hz; exact of_decide_eq_true this) hl trivial
theorem mat_row {w : World} {g : Nat} {T : TypeId} {vs : List Value} (xs : List (List Int)) (gs : Nat → Nat) (ho : Own w g T vs) (hl : xs.length ≤ 9223372036854775807) (hv : ∀ (i : Nat) (hi : i < xs.length), vs[i]? = some (.slice (some ⟨gs i, 0, none⟩) xs[i].length xs[i].length) ∧ Row Kd.i64 w All (some ⟨gs i, 0, none⟩) xs[i]) : Row Kd.i64.slice w All (some ⟨g, 0, none⟩) xs :=
  ho.row (k := Kd.i64.slice) xs hl trivial fun i hi => ⟨[.slice (some ⟨gs i, 0, none⟩) xs[i].length xs[i].length], slice_K rfl (Nat.le_refl _) (hv i hi).2.1 (hv i hi).2, fun j u hu => by
    cases j with
    | zero => rw [show i * Kd.i64.slice.size + 0 = i from by simp [Kd.slice], (hv i hi).1]; exact hu
    | succ j => simp at hu⟩
theorem lit_h {w : World} {s : Nat} (hs : w.heap.size = s) : ∃ W, W = ((w.alloc (.cells #[.int .i64 2, .int .i64 1] 2)).alloc (.cells #[.int .i64 1, .int .i64 2] 2)).alloc (.cells #[.slice (some ⟨s, 0, none⟩) 2 2, .slice (some ⟨s + 1, 0, none⟩) 2 2] 22) ∧ Row Kd.i64.slice W All (some ⟨s + 1 + 1, 0, none⟩) [[2, 1], [1, 2]] ∧ Below w.heap.size w W ∧ W.heap.size = s + 1 + 1 + 1 := by
  obtain ⟨w0, e0⟩ : ∃ W : World, W = w.alloc (.cells #[.int .i64 2, .int .i64 1] 2) := ⟨_, rfl⟩
  have s0 : w0.heap.size = s + 1 := by rw [e0]; simp [hs]
  have b0 : Below w.heap.size w w0 := by rw [e0]; exact ext_alloc (Below.refl _ _) _
  have r0 : Row Kd.i64 w0 All (some ⟨s, 0, none⟩) [2, 1] := by rw [e0]; exact lit_row hs [2, 1] (by decide)
  obtain ⟨w1, e1⟩ : ∃ W : World, W = w0.alloc (.cells #[.int .i64 1, .int .i64 2] 2) := ⟨_, rfl⟩
  have s1 : w1.heap.size = s + 1 + 1 := by rw [e1]; simp [s0]
  have b1 : Below w0.heap.size w0 w1 := by rw [e1]; exact ext_alloc (Below.refl _ _) _
  replace r0 := r0.ext b1
  have r1 : Row Kd.i64 w1 All (some ⟨s + 1, 0, none⟩) [1, 2] := by rw [e1]; exact lit_row s0 [1, 2] (by decide)
  obtain ⟨w2, e2⟩ : ∃ W : World, W = w1.alloc (.cells #[.slice (some ⟨s, 0, none⟩) 2 2, .slice (some ⟨s + 1, 0, none⟩) 2 2] 22) := ⟨_, rfl⟩
  have s2 : w2.heap.size = s + 1 + 1 + 1 := by rw [e2]; simp [s1]
  have b2 : Below w1.heap.size w1 w2 := by rw [e2]; exact ext_alloc (Below.refl _ _) _
  replace r0 := r0.ext b2
  replace r1 := r1.ext b2
  have o : Own w2 (s + 1 + 1) 22 [.slice (some ⟨s, 0, none⟩) 2 2, .slice (some ⟨s + 1, 0, none⟩) 2 2] := by rw [e2]; exact Own.new_ s1
  refine ⟨w2, by rw [e2, e1, e0], ?_, (ext_trans (ext_trans b0 b1) b2), s2⟩
  refine mat_row [[2, 1], [1, 2]] (fun i => s + i) o (by simp) fun i hi => ?_
  have h9 : i < 2 := hi
  rcases (show i = 0 ∨ i = 1 by omega) with rfl | rfl
  · exact ⟨rfl, r0⟩
  · exact ⟨rfl, r1⟩
theorem lit_l {w : World} {s : Nat} (hs : w.heap.size = s) : ∃ W, W = ((((w.alloc (.cells #[.int .i64 (-1), .int .i64 1] 2)).alloc (.cells #[.int .i64 0, .int .i64 2] 2)).alloc (.cells #[.int .i64 1, .int .i64 (-1)] 2)).alloc (.cells #[.int .i64 1, .int .i64 0] 2)).alloc (.cells #[.slice (some ⟨s, 0, none⟩) 2 2, .slice (some ⟨s + 1, 0, none⟩) 2 2, .slice (some ⟨s + 1 + 1, 0, none⟩) 2 2, .slice (some ⟨s + 1 + 1 + 1, 0, none⟩) 2 2] 22) ∧ Row Kd.i64.slice W All (some ⟨s + 1 + 1 + 1 + 1, 0, none⟩) [[-1, 1], [0, 2], [1, -1], [1, 0]] ∧ Below w.heap.size w W ∧ W.heap.size = s + 1 + 1 + 1 + 1 + 1 := by
  obtain ⟨w0, e0⟩ : ∃ W : World, W = w.alloc (.cells #[.int .i64 (-1), .int .i64 1] 2) := ⟨_, rfl⟩
  have s0 : w0.heap.size = s + 1 := by rw [e0]; simp [hs]
  have b0 : Below w.heap.size w w0 := by rw [e0]; exact ext_alloc (Below.refl _ _) _
  have r0 : Row Kd.i64 w0 All (some ⟨s, 0, none⟩) [-1, 1] := by rw [e0]; exact lit_row hs [-1, 1] (by decide)
  obtain ⟨w1, e1⟩ : ∃ W : World, W = w0.alloc (.cells #[.int .i64 0, .int .i64 2] 2) := ⟨_, rfl⟩
  have s1 : w1.heap.size = s + 1 + 1 := by rw [e1]; simp [s0]
  have b1 : Below w0.heap.size w0 w1 := by rw [e1]; exact ext_alloc (Below.refl _ _) _
  replace r0 := r0.ext b1
  have r1 : Row Kd.i64 w1 All (some ⟨s + 1, 0, none⟩) [0, 2] := by rw [e1]; exact lit_row s0 [0, 2] (by decide)
  obtain ⟨w2, e2⟩ : ∃ W : World, W = w1.alloc (.cells #[.int .i64 1, .int .i64 (-1)] 2) := ⟨_, rfl⟩
  have s2 : w2.heap.size = s + 1 + 1 + 1 := by rw [e2]; simp [s1]
  have b2 : Below w1.heap.size w1 w2 := by rw [e2]; exact ext_alloc (Below.refl _ _) _
  replace r0 := r0.ext b2
  replace r1 := r1.ext b2
  have r2 : Row Kd.i64 w2 All (some ⟨s + 1 + 1, 0, none⟩) [1, -1] := by rw [e2]; exact lit_row s1 [1, -1] (by decide)
  obtain ⟨w3, e3⟩ : ∃ W : World, W = w2.alloc (.cells #[.int .i64 1, .int .i64 0] 2) := ⟨_, rfl⟩
  have s3 : w3.heap.size = s + 1 + 1 + 1 + 1 := by rw [e3]; simp [s2]
  have b3 : Below w2.heap.size w2 w3 := by rw [e3]; exact ext_alloc (Below.refl _ _) _
  replace r0 := r0.ext b3
  replace r1 := r1.ext b3
  replace r2 := r2.ext b3
  have r3 : Row Kd.i64 w3 All (some ⟨s + 1 + 1 + 1, 0, none⟩) [1, 0] := by rw [e3]; exact lit_row s2 [1, 0] (by decide)
  obtain ⟨w4, e4⟩ : ∃ W : World, W = w3.alloc (.cells #[.slice (some ⟨s, 0, none⟩) 2 2, .slice (some ⟨s + 1, 0, none⟩) 2 2, .slice (some ⟨s + 1 + 1, 0, none⟩) 2 2, .slice (some ⟨s + 1 + 1 + 1, 0, none⟩) 2 2] 22) := ⟨_, rfl⟩
  have s4 : w4.heap.size = s + 1 + 1 + 1 + 1 + 1 := by rw [e4]; simp [s3]
  have b4 : Below w3.heap.size w3 w4 := by rw [e4]; exact ext_alloc (Below.refl _ _) _
  replace r0 := r0.ext b4
  replace r1 := r1.ext b4
  replace r2 := r2.ext b4
  replace r3 := r3.ext b4
  have o : Own w4 (s + 1 + 1 + 1 + 1) 22 [.slice (some ⟨s, 0, none⟩) 2 2, .slice (some ⟨s + 1, 0, none⟩) 2 2, .slice (some ⟨s + 1 + 1, 0, none⟩) 2 2, .slice (some ⟨s + 1 + 1 + 1, 0, none⟩) 2 2] := by rw [e4]; exact Own.new_ s3
  refine ⟨w4, by rw [e4, e3, e2, e1, e0], ?_, (ext_trans (ext_trans (ext_trans (ext_trans b0 b1) b2) b3) b4), s4⟩
  refine mat_row [[-1, 1], [0, 2], [1, -1], [1, 0]] (fun i => s + i) o (by simp) fun i hi => ?_
  have h9 : i < 4 := hi
  rcases (show i = 0 ∨ i = 1 ∨ i = 2 ∨ i = 3 by omega) with rfl | rfl | rfl | rfl
  · exact ⟨rfl, r0⟩
  · exact ⟨rfl, r1⟩
  · exact ⟨rfl, r2⟩
  · exact ⟨rfl, r3⟩
theorem lit_o {w : World} {s : Nat} (hs : w.heap.size = s) : ∃ W, W = (((w.alloc (.cells #[.int .i64 1, .int .i64 (-1)] 2)).alloc (.cells #[.int .i64 1, .int .i64 0] 2)).alloc (.cells #[.int .i64 0, .int .i64 2] 2)).alloc (.cells #[.slice (some ⟨s, 0, none⟩) 2 2, .slice (some ⟨s + 1, 0, none⟩) 2 2, .slice (some ⟨s + 1 + 1, 0, none⟩) 2 2] 22) ∧ Row Kd.i64.slice W All (some ⟨s + 1 + 1 + 1, 0, none⟩) [[1, -1], [1, 0], [0, 2]] ∧ Below w.heap.size w W ∧ W.heap.size = s + 1 + 1 + 1 + 1 := by
  obtain ⟨w0, e0⟩ : ∃ W : World, W = w.alloc (.cells #[.int .i64 1, .int .i64 (-1)] 2) := ⟨_, rfl⟩
  have s0 : w0.heap.size = s + 1 := by rw [e0]; simp [hs]
  have b0 : Below w.heap.size w w0 := by rw [e0]; exact ext_alloc (Below.refl _ _) _
  have r0 : Row Kd.i64 w0 All (some ⟨s, 0, none⟩) [1, -1] := by rw [e0]; exact lit_row hs [1, -1] (by decide)
  obtain ⟨w1, e1⟩ : ∃ W : World, W = w0.alloc (.cells #[.int .i64 1, .int .i64 0] 2) := ⟨_, rfl⟩
  have s1 : w1.heap.size = s + 1 + 1 := by rw [e1]; simp [s0]
  have b1 : Below w0.heap.size w0 w1 := by rw [e1]; exact ext_alloc (Below.refl _ _) _
  replace r0 := r0.ext b1
  have r1 : Row Kd.i64 w1 All (some ⟨s + 1, 0, none⟩) [1, 0] := by rw [e1]; exact lit_row s0 [1, 0] (by decide)
  obtain ⟨w2, e2⟩ : ∃ W : World, W = w1.alloc (.cells #[.int .i64 0, .int .i64 2] 2) := ⟨_, rfl⟩
  have s2 : w2.heap.size = s + 1 + 1 + 1 := by rw [e2]; simp [s1]
  have b2 : Below w1.heap.size w1 w2 := by rw [e2]; exact ext_alloc (Below.refl _ _) _
  replace r0 := r0.ext b2
  replace r1 := r1.ext b2
  have r2 : Row Kd.i64 w2 All (some ⟨s + 1 + 1, 0, none⟩) [0, 2] := by rw [e2]; exact lit_row s1 [0, 2] (by decide)
  obtain ⟨w3, e3⟩ : ∃ W : World, W = w2.alloc (.cells #[.slice (some ⟨s, 0, none⟩) 2 2, .slice (some ⟨s + 1, 0, none⟩) 2 2, .slice (some ⟨s + 1 + 1, 0, none⟩) 2 2] 22) := ⟨_, rfl⟩
  have s3 : w3.heap.size = s + 1 + 1 + 1 + 1 := by rw [e3]; simp [s2]
  have b3 : Below w2.heap.size w2 w3 := by rw [e3]; exact ext_alloc (Below.refl _ _) _
  replace r0 := r0.ext b3
  replace r1 := r1.ext b3
  replace r2 := r2.ext b3
  have o : Own w3 (s + 1 + 1 + 1) 22 [.slice (some ⟨s, 0, none⟩) 2 2, .slice (some ⟨s + 1, 0, none⟩) 2 2, .slice (some ⟨s + 1 + 1, 0, none⟩) 2 2] := by rw [e3]; exact Own.new_ s2
  refine ⟨w3, by rw [e3, e2, e1, e0], ?_, (ext_trans (ext_trans (ext_trans b0 b1) b2) b3), s3⟩
  refine mat_row [[1, -1], [1, 0], [0, 2]] (fun i => s + i) o (by simp) fun i hi => ?_
  have h9 : i < 3 := hi
  rcases (show i = 0 ∨ i = 1 ∨ i = 2 by omega) with rfl | rfl | rfl
  · exact ⟨rfl, r0⟩
  · exact ⟨rfl, r1⟩
  · exact ⟨rfl, r2⟩
set_option maxRecDepth 100000 in
set_option maxHeartbeats 2000000 in
theorem awake_any (w : World) : Calls Try.prog 8 #[] w fun e w' => e = .returned (.bool true) ∧ Below w.heap.size w w' := by
  refine veil fun R HP => ?_
  go_enter Try.func8, Try.ntmps8
  go_wp2_with fail
  obtain ⟨W1, e1, HH0, B1, s1⟩ := lit_h (w := w) rfl
  rw [← e1]
  obtain ⟨W2, e2, HL0, B2, s2⟩ := lit_l (w := W1) s1
  rw [← e2]
  have HH := Lib.hid (HH0.ext B2)
  have HL := Lib.hid HL0
  have BB := Lib.hid (ext_trans B1 B2)
  clear e1 e2 HH0 HL0 B1 B2 s1 s2
  with_reducible refine (SortUnique_any All _ _ 2 2 4 4 hexH hexL W2 rfl rfl hex_fm (by omega) (by decide) HH.out HL.out).mono ?_
  rintro e w3 ⟨hif, hb⟩
  rw [if_pos hex_srt] at hif
  obtain ⟨A3, c3, L, hL, ⟨l1, l2, hr⟩, rfl⟩ := hif
  have hLL := hex_out hL.1 hL.2
  subst hLL
  have R3 := Lib.hid (show Row Kd.i64.slice w3 All A3 [[1, -1], [1, 0], [0, 2]] from hr.weak fun _ _ _ => trivial)
  have B3 := Lib.hid (ext_trans BB.out hb)
  have H3 := Lib.hid (HH.out.ext hb)
  rw [show ([((2 : Int), [(1 : Int), -1]), (2, [1, 0]), (8, [0, 2])] : List (Int × List Int)).length = 3 from rfl]
  clear l1 l2 hr hb HH HL BB hL
  have X3 := Lib.hid (show Row Kd.i64 (w3.alloc (.cells #[.int .i64 1, .int .i64 (-1)] 2)) All (some ⟨w3.heap.size, 0, none⟩) [1, -1] from lit_row (w := w3) rfl [1, -1] (by decide))
  have E3 := Lib.hid (ext_alloc (Below.refl w3.heap.size w3) (.cells #[.int .i64 1, .int .i64 (-1)] 2))
  go_wp2_with fail
  have NV : (if inrB hexH [1, -1] [1, -1] = true then innerZ hexH [1, -1] [1, -1] hexH.length else 0) = 2 := by decide
  have NB : inrB hexH [1, -1] [1, -1] = true := by decide
  have NM := vNorm_any All _ _ 2 2 2 2 hexH [1, -1] _ rfl rfl hex_fm (H3.out.ext E3.out) X3.out
  rw [NV, NB] at NM
  with_reducible refine NM.mono ?_
  rintro e w5 ⟨rfl, hb⟩
  have B5 := Lib.hid (ext_trans B3.out (ext_trans E3.out hb))
  have R5 := Lib.hid (R3.out.ext (ext_trans E3.out hb))
  clear NM NV NB hb H3 X3 E3 R3
  have X5 := Lib.hid (show Row Kd.i64 (w5.alloc (.cells #[.int .i64 0, .int .i64 (-3), .int .i64 1] 2)) All (some ⟨w5.heap.size, 0, none⟩) [0, -3, 1] from lit_row (w := w5) rfl [0, -3, 1] (by decide))
  have E5 := Lib.hid (ext_alloc (Below.refl w5.heap.size w5) (.cells #[.int .i64 0, .int .i64 (-3), .int .i64 1] 2))
  go_wp2_with fail
  with_reducible refine (vCanon_any All _ 3 3 [0, -3, 1] _ rfl (by omega) X5.out).mono ?_
  rintro e w6 ⟨hif, hb⟩
  rw [if_pos (by decide)] at hif
  obtain ⟨v6, hv6, rfl⟩ := hif
  rw [show can [0, -3, 1] = [0, 3, -1] from by decide] at hv6
  obtain ⟨A6, c6, rfl, g1, g2, g3⟩ := hv6.row (fun _ _ => trivial)
  rw [show ([0, 3, -1] : List Int).length = 3 from rfl]
  have B6 := Lib.hid (ext_trans B5.out (ext_trans E5.out hb))
  have R6 := Lib.hid (R5.out.ext (ext_trans E5.out hb))
  have X6 := Lib.hid g3
  clear hb g1 g2 g3 hv6 X5 E5 R5
  go_wp2_with fail
  obtain ⟨W7, e7, HO0, B7, s7⟩ := lit_o (w := w6) rfl
  rw [← e7]
  have HO := Lib.hid HO0
  have R7 := Lib.hid (R6.out.ext B7)
  have X7 := Lib.hid (X6.out.ext B7)
  have BB := Lib.hid (ext_trans B6.out B7)
  clear e7 HO0 B7 s7
  have SM := Same_any All _ _ 3 3 c3 3 [[1, -1], [1, 0], [0, 2]] [[1, -1], [1, 0], [0, 2]] W7 rfl rfl R7.out HO.out
  rw [show sameB [[1, -1], [1, 0], [0, 2]] [[1, -1], [1, 0], [0, 2]] = true from by decide] at SM
  with_reducible refine SM.mono ?_
  rintro e w8 ⟨rfl, hd⟩
  have X8 := Lib.hid (X7.out.ext (drawn_ext hd))
  have B8 := Lib.hid (ext_trans BB.out (drawn_ext hd))
  clear SM hd R7 HO
  have XL := Lib.hid (show Row Kd.i64 (w8.alloc (.cells #[.int .i64 0, .int .i64 3, .int .i64 (-1)] 2)) All (some ⟨w8.heap.size, 0, none⟩) [0, 3, -1] from lit_row (w := w8) rfl [0, 3, -1] (by decide))
  have E8 := Lib.hid (ext_alloc (Below.refl w8.heap.size w8) (.cells #[.int .i64 0, .int .i64 3, .int .i64 (-1)] 2))
  go_wp2_with fail
  have RC := rCompare_any All _ _ 3 3 c6 3 [0, 3, -1] [0, 3, -1] _ rfl rfl (X8.out.ext E8.out) XL.out
  rw [show cmpL [0, 3, -1] [0, 3, -1] = 0 from by decide] at RC
  with_reducible refine RC.mono ?_
  rintro e w9 ⟨rfl, hd⟩
  have B9 := Lib.hid (ext_trans B8.out (ext_trans E8.out (drawn_ext hd)))
  clear RC hd X8 XL E8
  go_wp2
  exact HP.out _ _ ⟨rfl, B9.out⟩
end Go.Proofs.Ythibocafjkbeeaa
