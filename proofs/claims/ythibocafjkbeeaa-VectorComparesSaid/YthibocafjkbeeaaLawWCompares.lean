/-
  The walk of the statement on the order of lists. Condition: the bytes of the arguments stay below the form's reach.
-/
import Derived.Test.YthibocafjkbeeaaLawWSigns
set_option linter.unusedVariables false
set_option linter.unusedSimpArgs false
namespace Go.Proofs.Ythibocafjkbeeaa
open Go.RowKit

theorem row_take {w : World} {ok : Nat → Prop} {A : Option Addr} {xs : List Int} (h : Row Kd.i64 w ok A xs) (m : Nat) : Row Kd.i64 w ok A (xs.take m) := by
  have hl : (xs.take m).length ≤ xs.length := by rw [List.length_take]; omega
  refine ⟨Nat.le_trans hl h.1, fun hp => ?_⟩
  obtain ⟨ad, e, h1, h2, h3⟩ := h.2 (by omega)
  refine ⟨ad, e, h1, h2, fun i hi => ?_⟩
  obtain ⟨cs, hK, hc⟩ := h3 i (by omega)
  exact ⟨cs, by rw [List.getElem_take]; exact hK, hc⟩
set_option maxRecDepth 100000 in
set_option maxHeartbeats 2000000 in
theorem walkCompares (a0 : Option Addr) (len0 cap0 : Nat) (z0 : List Int) (a1 : Option Addr) (len1 cap1 : Nat) (z1 : List Int) (a2 : Int) (w : World) (w0 : IsRow .i64 w a0 len0 cap0 z0) (w1 : IsRow .i64 w a1 len1 cap1 z1) (w2 : (Lit.int .u8 a2).wf = true) (u0 : cap0 * 8 ≤ 140737488351232) (u1 : cap1 * 8 ≤ 140737488351232) :
    Calls Try.prog 3 #[.slice a0 len0 cap0, .slice a1 len1 cap1, .int .u8 a2] w fun e w' => e = .returned (.bool true) ∧ Below w.heap.size w w' := by
  refine veil fun R HP => ?_
  obtain ⟨n0, b0, -, r0⟩ := w0.row
  obtain ⟨n1, b1, -, r1⟩ := w1.row
  obtain ⟨xs, hxs⟩ : ∃ xs, xs = z0.take len0 := ⟨_, rfl⟩
  obtain ⟨ys, hys⟩ : ∃ ys, ys = z1.take len1 := ⟨_, rfl⟩
  rw [← hxs] at n0 r0
  rw [← hys] at n1 r1
  obtain ⟨c1, c2⟩ := wf_u8 w2
  obtain ⟨k, rfl⟩ : ∃ k : Nat, a2 = (k : Int) := ⟨a2.toNat, by omega⟩
  have z1 : IntKind.i64.wrap (k : Int) = (k : Int) := wrap_small _ (by omega) (by omega)
  obtain ⟨m, hm⟩ : ∃ m, m = min len0 (k % 8) := ⟨_, rfl⟩
  have z2 : Int.tmod (k : Int) 8 = (k : Int) % 8 := by rw [Int.tmod_eq_emod_of_nonneg (by omega)]
  have z3 : min (len0 : Int) ((k : Int) % 8) = (m : Int) := by omega
  have hb0 : len0 * 8 ≤ 140737488351232 := by omega
  have hb1 : len1 * 8 ≤ 140737488351232 := by omega
  have i1 : (0 : Int) ≤ (m : Int) := by omega
  have i2 : (m : Int) ≤ (cap0 : Int) := by omega
  have hm7 : m ≤ 7 := by omega
  have N0 := Lib.hid n0
  have N1 := Lib.hid n1
  have R0 := Lib.hid (r0.weak (ok' := fun b => b < w.heap.size) fun b _ hb => hb)
  have R1 := Lib.hid (r1.weak (ok' := fun b => b < w.heap.size) fun b _ hb => hb)
  have NT := Lib.hid (show m = (xs.take m).length from by rw [List.length_take]; omega)
  have NA := Lib.hid (show (xs.take m).length + len1 ≤ 9223372036854775807 ∧ ((xs.take m).length + len1) * 8 ≤ 140737488355328 from by rw [List.length_take]; omega)
  clear n0 n1 r0 r1 w0 w1 w2 hxs hys u0 u1 b0 b1 hm
  go_enter Try.func3, Try.ntmps3
  go_wp2_with (at_builtin; (first
    | (refine wpList_cat (k := Kd.i64) (base := w.heap.size) (T := 2) (ok := All) (xs := []) rfl (.const (.slice none 0 0)) (.tmp 15) 22 rfl (.int .i64 0) 8 Try.underlying22 info_num rfl (show 0 < 1 by omega) rfl (Grow.nil _ _ _ _) a0 m cap0 (xs.take m) NT.out rfl ((row_take R0.out m).weak fun b hb _ => ⟨trivial, fun e => by cases e⟩) (by simp; omega) (by simp; omega) (Nat.le_refl _) ?_
       intro v' w6 hg6 hr6 hv6
       rw [List.nil_append] at hg6
       have G6 := Lib.hid hg6
       have E6 := Lib.hid (show Below w.heap.size w w6 from ext_grown (Below.refl _ _) hr6 fun k e => by cases e)
       clear hg6 hr6 hv6)
    | (refine wpList_cat (k := Kd.i64) (base := w.heap.size) (T := 2) (ok := All) (xs := xs.take m) rfl (.tmp 16) (.tmp 17) 22 rfl (.int .i64 0) 8 Try.underlying22 info_num rfl (show 0 < 1 by omega) rfl G6.out a1 len1 cap1 ys N1.out rfl ((R1.out.ext E6.out).weak fun b hb _ => ⟨trivial, fun e => by have := (G6.out.lt b e).1; omega⟩) NA.out.1 NA.out.2 E6.out.size ?_
       intro v7 w7 hg7 hr7 hv7
       have G7 := Lib.hid hg7
       have E7 := Lib.hid (show Below w.heap.size w w7 from ext_grown E6.out hr7 fun k e => (G6.out.lt k e).1)
       clear hg7 hr7 hv7)))
  obtain ⟨ws, hws⟩ : ∃ ws, ws = xs.take m ++ ys := ⟨_, rfl⟩
  rw [← hws] at G7
  obtain ⟨A7, c7, e7, -, -, r7⟩ := G7.out.row (fun _ _ => trivial)
  obtain ⟨q, hq⟩ : ∃ q, q = ws.length := ⟨_, rfl⟩
  rw [← hq] at e7
  subst e7
  have NW := Lib.hid hq
  have RX := Lib.hid ((R0.out.ext E7.out).weak (ok' := All) fun _ _ _ => trivial)
  have RY := Lib.hid ((R1.out.ext E7.out).weak (ok' := All) fun _ _ _ => trivial)
  have RW := Lib.hid r7
  have B3 := Lib.hid E7.out
  clear r7 hq hws G7 G6 E6 E7 NT NA R0 R1 z1 z2 z3
  obtain ⟨t1, h1⟩ : ∃ t1, t1 = cmpL xs ys := ⟨_, rfl⟩
  obtain ⟨t2, h2⟩ : ∃ t2, t2 = cmpL ys xs := ⟨_, rfl⟩
  obtain ⟨t3, h3⟩ : ∃ t3, t3 = cmpL xs ws := ⟨_, rfl⟩
  have T1 := Lib.hid h1
  have T2 := Lib.hid h2
  have T3 := Lib.hid h3
  clear h1 h2 h3
  have CT := vCompare_any All a0 a1 len0 len1 cap0 cap1 xs ys _ N0.out N1.out RX.out RY.out
  rw [← T1.out] at CT
  with_reducible refine CT.mono ?_
  rintro e' w' ⟨rfl, rfl⟩
  clear CT
  go_wp2_with fail
  have CT := rCompare_any All a0 a1 len0 len1 cap0 cap1 xs ys _ N0.out N1.out RX.out RY.out
  rw [← T1.out] at CT
  with_reducible refine CT.mono ?_
  rintro e' w' ⟨rfl, hd⟩
  replace RX := Lib.hid (RX.out.ext (drawn_ext hd))
  replace RY := Lib.hid (RY.out.ext (drawn_ext hd))
  replace RW := Lib.hid (RW.out.ext (drawn_ext hd))
  replace B3 := Lib.hid (ext_trans B3.out (drawn_ext hd))
  clear CT hd
  go_wp2_with fail
  have CT := vCompare_any All a1 a0 len1 len0 cap1 cap0 ys xs _ N1.out N0.out RY.out RX.out
  rw [← T2.out] at CT
  with_reducible refine CT.mono ?_
  rintro e' w' ⟨rfl, rfl⟩
  clear CT
  go_wp2_with fail
  have CT := rCompare_any All a1 a0 len1 len0 cap1 cap0 ys xs _ N1.out N0.out RY.out RX.out
  rw [← T2.out] at CT
  with_reducible refine CT.mono ?_
  rintro e' w' ⟨rfl, hd⟩
  replace RX := Lib.hid (RX.out.ext (drawn_ext hd))
  replace RY := Lib.hid (RY.out.ext (drawn_ext hd))
  replace RW := Lib.hid (RW.out.ext (drawn_ext hd))
  replace B3 := Lib.hid (ext_trans B3.out (drawn_ext hd))
  clear CT hd
  go_wp2_with fail
  have CT := vCompare_any All a0 A7 len0 q cap0 c7 xs ws _ N0.out NW.out RX.out RW.out
  rw [← T3.out] at CT
  with_reducible refine CT.mono ?_
  rintro e' w' ⟨rfl, rfl⟩
  clear CT
  go_wp2_with fail
  have CT := rCompare_any All a0 A7 len0 q cap0 c7 xs ws _ N0.out NW.out RX.out RW.out
  rw [← T3.out] at CT
  with_reducible refine CT.mono ?_
  rintro e' w' ⟨rfl, hd⟩
  replace RX := Lib.hid (RX.out.ext (drawn_ext hd))
  replace RY := Lib.hid (RY.out.ext (drawn_ext hd))
  replace RW := Lib.hid (RW.out.ext (drawn_ext hd))
  replace B3 := Lib.hid (ext_trans B3.out (drawn_ext hd))
  clear CT hd
  go_wp2_with fail
  have CT := vCompare_any All a0 a0 len0 len0 cap0 cap0 xs xs _ N0.out N0.out RX.out RX.out
  rw [cmpL_self] at CT
  with_reducible refine CT.mono ?_
  rintro e' w' ⟨rfl, rfl⟩
  clear CT
  go_wp2_with fail
  with_reducible refine (awake_any _).mono ?_
  rintro e' w' ⟨rfl, hb⟩
  replace B3 := Lib.hid (ext_trans B3.out hb)
  clear hb
  go_wp2
  exact HP.out _ _ ⟨rfl, B3.out⟩
end Go.Proofs.Ythibocafjkbeeaa
