/-
  The walk of the statement on contents. No condition but that the arguments can be read.
-/
import Derived.Test.YthibocafjkbeeaaPart16
set_option linter.unusedVariables false
set_option linter.unusedSimpArgs false
namespace Go.Proofs.Ythibocafjkbeeaa
open Go.RowKit

theorem wf_i16 {n : Int} (h : (Lit.int .i16 n).wf = true) : -32768 ≤ n ∧ n ≤ 32767 := by
  simp [Lit.wf, IntKind.min, IntKind.max, IntKind.signed, IntKind.bits] at h
  omega
theorem mul_i8_i16 {x c : Int} (h1 : -128 ≤ x) (h2 : x ≤ 127) (h3 : -32768 ≤ c) (h4 : c ≤ 32767) : -9223372036854775808 ≤ x * c ∧ x * c ≤ 9223372036854775807 := by
  have h := Int.natAbs_mul x c
  have : x.natAbs * c.natAbs ≤ 128 * 32768 := Nat.mul_le_mul (by omega) (by omega)
  omega
set_option maxRecDepth 100000 in
set_option maxHeartbeats 2000000 in
theorem walkContents (a0 : Option Addr) (len0 cap0 : Nat) (z0 : List Int) (a1 : Option Addr) (len1 cap1 : Nat) (z1 : List Int) (a2 : Int) (w : World) (w0 : IsRow .i64 w a0 len0 cap0 z0) (w1 : IsRow .i8 w a1 len1 cap1 z1) (w2 : (Lit.int .i16 a2).wf = true) :
    Calls Try.prog 5 #[.slice a0 len0 cap0, .slice a1 len1 cap1, .int .i16 a2] w fun e w' => e = .returned (.bool true) ∧ Below w.heap.size w w' := by
  refine veil fun R HP => ?_
  obtain ⟨n0, -, -, r0⟩ := w0.row
  obtain ⟨n1, -, -, r1⟩ := w1.row8
  obtain ⟨xs, hxs⟩ : ∃ xs, xs = z0.take len0 := ⟨_, rfl⟩
  obtain ⟨ls, hls⟩ : ∃ ls, ls = z1.take len1 := ⟨_, rfl⟩
  rw [← hxs] at n0 r0
  rw [← hls] at n1 r1
  obtain ⟨c1, c2⟩ := wf_i16 w2
  have N0 := Lib.hid n0
  have N1 := Lib.hid n1
  have R0 := Lib.hid r0
  have R1 := Lib.hid r1
  have HI := Lib.hid (fun i => r1.nums8 i)
  clear n0 n1 r0 r1 w0 w1 w2 hxs hls
  go_enter Try.func5, Try.ntmps5
  go_wp2_with fail
  refine (vector_any All a1 len1 cap1 5 ls w (by omega) N1.out R1.out).mono ?_
  rintro e w3 ⟨g, rfl, hO, hIn, hg, hb⟩
  have O3 := Lib.hid hO
  have I3 := Lib.hid hIn
  have B3 := Lib.hid hb
  have HG := Lib.hid hg
  clear hO hIn hb hg
  go_wp2
  go_loopw [13] (fun i w' => ∃ (j : Nat) (ys : List Int), j ≤ 5 ∧ i = .int .i64 (j : Int) ∧ Hid (ys.length = 5 ∧ Own w' g 2 (ints ys) ∧ In64 ys ∧ Below w.heap.size w w' ∧ ∀ i, j ≤ i → i < 5 → nth ys i = nth ls i)) (fun i _ => 5 - (intOf i).toNat)
  case atStart => exact ⟨0, vecL ls 5, by omega, by go_num, Lib.hid ⟨vecL_length _ _, O3.out, I3.out, B3.out, fun i _ hi => nth_vecL _ _ _ hi⟩⟩
  case round =>
    obtain ⟨j, ys, hj, rfl, HY⟩ := hrel
    by_cases hlt : j < 5
    · obtain ⟨h1, h2, h3, h4, h5⟩ := HY.out
      have d1 : wr.cell? ⟨g, j, none⟩ = some (.int .i64 (nth ys j)) := by rw [h2.cell, ints_at _ _ (by omega)]
      have f1 := h2.free j
      have hx := h5 j (Nat.le_refl _) hlt
      obtain ⟨x1, x2⟩ := HI.out j
      rw [← hx] at x1 x2
      obtain ⟨x, hxx⟩ : ∃ x, x = nth ys j := ⟨_, rfl⟩
      rw [← hxx] at x1 x2 d1
      have m := mul_i8_i16 x1 x2 c1 c2
      have z1 : IntKind.i64.wrap (x * a2) = x * a2 := wrap_small _ m.1 m.2
      have z2 : IntKind.i64.wrap a2 = a2 := wrap_small _ (by omega) (by omega)
      have i1 : (0 : Int) ≤ (j : Int) := by omega
      have i2 : (j : Int) < 5 := by omega
      have M := Lib.hid m
      clear h1 h2 h3 h4 h5 hx hxx m
      go_wp2
      go_roundw
      case rel =>
        obtain ⟨h1, h2, h3, h4, h5⟩ := HY.out
        exact ⟨j + 1, ys.set j (x * a2), by omega, by go_num, Lib.hid ⟨by rw [List.length_set]; exact h1, by rw [← ints_set]; exact h2.set_ j _, h3.set_ j M.out.1 M.out.2, ext_set h4 HG.out _, fun i hi hi2 => by rw [nth_set_other _ _ _ _ (by omega)]; exact h5 i (by omega) hi2⟩⟩
      case measure => simp [intOf] <;> omega
    · obtain rfl : j = 5 := by omega
      obtain ⟨h1, h2, h3, h4, h5⟩ := HY.out
      have RY := Lib.hid (h2.introw (ok := All) h3 (by omega) trivial)
      have NY := Lib.hid h1.symm
      have B4 := Lib.hid h4
      clear h1 h2 h3 h4 h5
      obtain ⟨wx, rfl⟩ : ∃ wo : World, wo = wr := ⟨_, rfl⟩
      go_wp2_with fail
      obtain ⟨G1, hG1⟩ : ∃ G1, G1 = cont 0 xs := ⟨_, rfl⟩
      obtain ⟨G2, hG2⟩ : ∃ G2, G2 = cont 0 ys := ⟨_, rfl⟩
      have K1 := Lib.hid hG1
      have K2 := Lib.hid hG2
      have R4 := Lib.hid (R0.out.ext B4.out)
      clear hG1 hG2 HY
      have CT := vContent_any All a0 len0 cap0 xs wx N0.out (R4.out)
      rw [← K1.out] at CT
      with_reducible refine CT.mono ?_
      rintro e q1 ⟨rfl, hd⟩
      have Dq1 := Lib.hid (drawn_ext hd)
      clear CT hd
      go_wp2_with fail
      have CT := rContent_any All a0 len0 cap0 xs q1 N0.out (R4.out.ext Dq1.out)
      rw [← K1.out] at CT
      with_reducible refine CT.mono ?_
      rintro e q2 ⟨rfl, hd⟩
      have Dq2 := Lib.hid (ext_trans Dq1.out (drawn_ext hd))
      clear CT hd
      go_wp2_with fail
      have CT := vContent_any All (some ⟨g, 0, none⟩) 5 5 ys q2 NY.out (RY.out.ext Dq2.out)
      rw [← K2.out] at CT
      with_reducible refine CT.mono ?_
      rintro e q3 ⟨rfl, hd⟩
      have Dq3 := Lib.hid (ext_trans Dq2.out (drawn_ext hd))
      clear CT hd
      go_wp2_with fail
      have CT := rContent_any All (some ⟨g, 0, none⟩) 5 5 ys q3 NY.out (RY.out.ext Dq3.out)
      rw [← K2.out] at CT
      with_reducible refine CT.mono ?_
      rintro e q4 ⟨rfl, hd⟩
      have Dq4 := Lib.hid (ext_trans Dq3.out (drawn_ext hd))
      clear CT hd
      go_wp2_with fail
      have XL := Lib.hid (show Row Kd.i64 (q4.alloc (.cells #[.int .i64 (-9223372036854775808), .int .i64 0] 2)) All (some ⟨q4.heap.size, 0, none⟩) [-9223372036854775808, 0] from lit_row (w := q4) rfl [-9223372036854775808, 0] (by decide))
      have E4 := Lib.hid (ext_alloc (Below.refl q4.heap.size q4) (.cells #[.int .i64 (-9223372036854775808), .int .i64 0] 2))
      have CT := vContent_any All (some ⟨q4.heap.size, 0, none⟩) 2 2 [-9223372036854775808, 0] _ rfl XL.out
      rw [show ((cont 0 [-9223372036854775808, 0] : Nat) : Int) = 9223372036854775808 from by decide] at CT
      with_reducible refine CT.mono ?_
      rintro e q5 ⟨rfl, hd⟩
      have Dq5 := Lib.hid (ext_trans (ext_trans B4.out Dq4.out) (ext_trans E4.out (drawn_ext hd)))
      clear CT hd XL E4
      go_wp2_with fail
      with_reducible refine (awake_any q5).mono ?_
      rintro e q6 ⟨rfl, hb⟩
      have Dq6 := Lib.hid (ext_trans Dq5.out hb)
      clear hb
      go_wp2
      exact HP.out _ _ ⟨rfl, Dq6.out⟩
end Go.Proofs.Ythibocafjkbeeaa
