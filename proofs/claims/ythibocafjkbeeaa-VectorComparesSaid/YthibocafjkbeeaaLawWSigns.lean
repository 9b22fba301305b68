/-
  The walk of the statement on canonical signs. Condition: the bytes of the argument stay below the form's reach.
-/
import Derived.Test.YthibocafjkbeeaaPart16
set_option linter.unusedVariables false
set_option linter.unusedSimpArgs false
namespace Go.Proofs.Ythibocafjkbeeaa
open Go.RowKit

/-- What CanonicalSign hands back, as a list: empty where there is none. -/
def cres (xs : List Int) : List Int := if canB xs = true then can xs else []
theorem uni {w w' : World} {e : Ending} {xs : List Int} (h : if canB xs = true then ∃ v, Grow Kd.i64 w' w.heap.size 2 All v (can xs) ∧ e = .returned (.tuple #[v, .bool true]) else e = .returned (.tuple #[.slice none 0 0, .bool false])) :
    ∃ A n c, e = .returned (.tuple #[.slice A n c, .bool (canB xs)]) ∧ n = (cres xs).length ∧ Row Kd.i64 w' All A (cres xs) := by
  rcases Bool.eq_false_or_eq_true (canB xs) with hc | hc
  · rw [if_pos hc] at h
    obtain ⟨v, hv, rfl⟩ := h
    obtain ⟨A, c, rfl, h1, h2, h3⟩ := hv.row (fun _ _ => trivial)
    exact ⟨A, _, c, by rw [hc], by rw [cres, if_pos hc], by rw [cres, if_pos hc]; exact h3⟩
  · rw [if_neg (by rw [hc]; decide)] at h
    subst h
    exact ⟨none, 0, 0, by rw [hc], by rw [cres, if_neg (by rw [hc]; decide)]; rfl, by rw [cres, if_neg (by rw [hc]; decide)]; exact Row.nil _ _ _⟩
theorem wf_u8 {n : Int} (h : (Lit.int .u8 n).wf = true) : 0 ≤ n ∧ n ≤ 255 := by
  simp [Lit.wf, IntKind.min, IntKind.max, IntKind.signed, IntKind.bits] at h
  omega
set_option maxRecDepth 100000 in
set_option maxHeartbeats 2000000 in
theorem walkSigns (a0 : Option Addr) (len0 cap0 : Nat) (z0 : List Int) (a1 : Option Addr) (len1 cap1 : Nat) (z1 : List Int) (a2 : Int) (w : World) (w0 : IsRow .i64 w a0 len0 cap0 z0) (w1 : IsRow .i8 w a1 len1 cap1 z1) (w2 : (Lit.int .u8 a2).wf = true) (u0 : cap0 * 8 ≤ 140737488351232) :
    Calls Try.prog 4 #[.slice a0 len0 cap0, .slice a1 len1 cap1, .int .u8 a2] w fun e w' => e = .returned (.bool true) ∧ Below w.heap.size w w' := by
  refine veil fun R HP => ?_
  obtain ⟨n0, b0, -, r0⟩ := w0.row
  obtain ⟨n1, -, -, r1⟩ := w1.row8
  obtain ⟨xs, hxs⟩ : ∃ xs, xs = z0.take len0 := ⟨_, rfl⟩
  obtain ⟨ls, hls⟩ : ∃ ls, ls = z1.take len1 := ⟨_, rfl⟩
  rw [← hxs] at n0 r0
  rw [← hls] at n1 r1
  obtain ⟨c1, c2⟩ := wf_u8 w2
  obtain ⟨k, rfl⟩ : ∃ k : Nat, a2 = (k : Int) := ⟨a2.toNat, by omega⟩
  have z1 : IntKind.i64.wrap (k : Int) = (k : Int) := wrap_small _ (by omega) (by omega)
  have z2 : Int.tmod (k : Int) 10 = ((k % 10 : Nat) : Int) := by rw [Int.tmod_eq_emod_of_nonneg (by omega)]; omega
  obtain ⟨m, hm⟩ : ∃ m, m = k % 10 := ⟨_, rfl⟩
  rw [← hm] at z2
  have hm10 : m ≤ 65536 := by omega
  have hb0 : len0 * 8 ≤ 140737488355328 := by omega
  have N0 := Lib.hid n0
  have N1 := Lib.hid n1
  have R0 := Lib.hid r0
  have R1 := Lib.hid r1
  clear n0 n1 r0 r1 w0 w1 w2 hxs hls hm u0 b0
  go_enter Try.func4, Try.ntmps4
  go_wp2_with fail
  refine (vector_any All a1 len1 cap1 m ls w hm10 N1.out R1.out).mono ?_
  rintro e w3 ⟨g, rfl, hO, hIn, hg, hb⟩
  obtain ⟨ys, hys⟩ : ∃ ys, ys = vecL ls m := ⟨_, rfl⟩
  have hlen : m = ys.length := by rw [hys, vecL_length]
  rw [← hys] at hO hIn
  have RY := Lib.hid (hO.introw (ok := All) hIn (by omega) trivial)
  have NY := Lib.hid hlen
  have B3 := Lib.hid hb
  have R3 := Lib.hid (R0.out.ext hb)
  have hmb : m * 8 ≤ 140737488355328 := by omega
  clear hO hIn hb hg hys hlen z1 z2
  go_wp2_with fail
  with_reducible refine (vCanon_any All a0 len0 cap0 xs _ N0.out hb0 R3.out).mono ?_
  rintro e' w' ⟨hif, hb⟩
  obtain ⟨P1, p1, d1, rfl, hl, hr⟩ := uni hif
  replace R3 := Lib.hid (R3.out.ext hb)
  replace RY := Lib.hid (RY.out.ext hb)
  replace B3 := Lib.hid (ext_trans B3.out hb)
  have RP1 := Lib.hid hr
  have NP1 := Lib.hid hl
  clear hif hb hl hr
  go_wp2_with fail
  with_reducible refine (rCanon_any All a0 len0 cap0 xs _ N0.out hb0 R3.out).mono ?_
  rintro e' w' ⟨hif, hb⟩
  obtain ⟨P2, p2, d2, rfl, hl, hr⟩ := uni hif
  replace R3 := Lib.hid (R3.out.ext hb)
  replace RY := Lib.hid (RY.out.ext hb)
  replace RP1 := Lib.hid (RP1.out.ext hb)
  replace B3 := Lib.hid (ext_trans B3.out hb)
  have RP2 := Lib.hid hr
  have NP2 := Lib.hid hl
  clear hif hb hl hr
  go_wp2_with fail
  with_reducible refine (vCanon_any All (some ⟨g, 0, none⟩) m m ys _ NY.out hmb RY.out).mono ?_
  rintro e' w' ⟨hif, hb⟩
  obtain ⟨P3, p3, d3, rfl, hl, hr⟩ := uni hif
  replace R3 := Lib.hid (R3.out.ext hb)
  replace RY := Lib.hid (RY.out.ext hb)
  replace RP1 := Lib.hid (RP1.out.ext hb)
  replace RP2 := Lib.hid (RP2.out.ext hb)
  replace B3 := Lib.hid (ext_trans B3.out hb)
  have RP3 := Lib.hid hr
  have NP3 := Lib.hid hl
  clear hif hb hl hr
  go_wp2_with fail
  with_reducible refine (rCanon_any All (some ⟨g, 0, none⟩) m m ys _ NY.out hmb RY.out).mono ?_
  rintro e' w' ⟨hif, hb⟩
  obtain ⟨P4, p4, d4, rfl, hl, hr⟩ := uni hif
  replace R3 := Lib.hid (R3.out.ext hb)
  replace RY := Lib.hid (RY.out.ext hb)
  replace RP1 := Lib.hid (RP1.out.ext hb)
  replace RP2 := Lib.hid (RP2.out.ext hb)
  replace RP3 := Lib.hid (RP3.out.ext hb)
  replace B3 := Lib.hid (ext_trans B3.out hb)
  have RP4 := Lib.hid hr
  have NP4 := Lib.hid hl
  clear hif hb hl hr
  obtain ⟨b1, hb1⟩ : ∃ b1, b1 = canB xs := ⟨_, rfl⟩
  obtain ⟨b2, hb2⟩ : ∃ b2, b2 = canB ys := ⟨_, rfl⟩
  rw [← hb1, ← hb2]
  clear hb1 hb2
  go_wp2_with fail
  have CT := rCompare_any All P1 P2 p1 p2 d1 d2 (cres xs) (cres xs) _ NP1.out NP2.out RP1.out RP2.out
  rw [cmpL_self] at CT
  with_reducible refine CT.mono ?_
  rintro e' w' ⟨rfl, hd⟩
  replace R3 := Lib.hid (R3.out.ext (drawn_ext hd))
  replace RY := Lib.hid (RY.out.ext (drawn_ext hd))
  replace RP1 := Lib.hid (RP1.out.ext (drawn_ext hd))
  replace RP2 := Lib.hid (RP2.out.ext (drawn_ext hd))
  replace RP3 := Lib.hid (RP3.out.ext (drawn_ext hd))
  replace RP4 := Lib.hid (RP4.out.ext (drawn_ext hd))
  replace B3 := Lib.hid (ext_trans B3.out (drawn_ext hd))
  clear CT hd
  go_wp2_with fail
  have CT := rCompare_any All P3 P4 p3 p4 d3 d4 (cres ys) (cres ys) _ NP3.out NP4.out RP3.out RP4.out
  rw [cmpL_self] at CT
  with_reducible refine CT.mono ?_
  rintro e' w' ⟨rfl, hd⟩
  replace R3 := Lib.hid (R3.out.ext (drawn_ext hd))
  replace RY := Lib.hid (RY.out.ext (drawn_ext hd))
  replace RP1 := Lib.hid (RP1.out.ext (drawn_ext hd))
  replace RP2 := Lib.hid (RP2.out.ext (drawn_ext hd))
  replace RP3 := Lib.hid (RP3.out.ext (drawn_ext hd))
  replace RP4 := Lib.hid (RP4.out.ext (drawn_ext hd))
  replace B3 := Lib.hid (ext_trans B3.out (drawn_ext hd))
  clear CT hd
  go_wp2_with fail
  with_reducible refine (awake_any _).mono ?_
  rintro e' w' ⟨rfl, hb⟩
  replace B3 := Lib.hid (ext_trans B3.out hb)
  clear hb
  go_wp2
  exact HP.out _ _ ⟨rfl, B3.out⟩
end Go.Proofs.Ythibocafjkbeeaa
