/-
  What the walk is told of a slice of integers that came in, as a row of data. No condition.
-/
import Derived.Test.YthibocafjkbeeaaPart15
import Derived.ProofKit
set_option linter.unusedVariables false
set_option linter.unusedSimpArgs false
namespace Go.Proofs.Ythibocafjkbeeaa
open Go.RowKit

/-- A slice of integers that came in: it is nil, or it leads to a row of 'cap' cells, the numbers 'zs' (the first 'len' are its elements), each fitting its kind. -/
def IsRow (k : IntKind) (w : World) (a : Option Addr) (len cap : Nat) (zs : List Int) : Prop :=
  (a = none ∧ len = 0 ∧ cap = 0 ∧ zs = []) ∨
  ∃ x, a = some x ∧ len ≤ cap ∧ cap ≤ maxLen ∧ zs.length = cap ∧ (∀ i, i < zs.length → w.cell? (x.add i) = some (.int k (zs.getD i 0))) ∧ ∀ n ∈ zs, (Lit.int k n).wf = true
theorem cell_lt {w : World} {a : Addr} {v : Value} (h : w.cell? a = some v) : a.block < w.heap.size := by
  rcases Nat.lt_or_ge a.block w.heap.size with h1 | h1
  · exact h1
  · simp [World.cell?, Array.getElem?_eq_none h1] at h
theorem wf_i64 {n : Int} (h : (Lit.int .i64 n).wf = true) : -9223372036854775808 ≤ n ∧ n ≤ 9223372036854775807 := by
  simp [Lit.wf, IntKind.min, IntKind.max, IntKind.signed, IntKind.bits] at h
  omega
theorem wf_i8 {n : Int} (h : (Lit.int .i8 n).wf = true) : -128 ≤ n ∧ n ≤ 127 := by
  simp [Lit.wf, IntKind.min, IntKind.max, IntKind.signed, IntKind.bits] at h
  omega
theorem IsRow.row {w : World} {a : Option Addr} {len cap : Nat} {zs : List Int} (h : IsRow .i64 w a len cap zs) : len = (zs.take len).length ∧ len ≤ cap ∧ cap ≤ 9223372036854775807 ∧ Row Kd.i64 w All a (zs.take len) := by
  rcases h with ⟨rfl, rfl, rfl, rfl⟩ | ⟨x, rfl, h1, h2, h3, h4, h5⟩
  · exact ⟨rfl, Nat.le_refl _, by omega, Row.nil _ _ _⟩
  · have hl : (zs.take len).length = len := by rw [List.length_take]; omega
    have hm : cap ≤ 9223372036854775807 := by unfold maxLen at h2; omega
    refine ⟨hl.symm, h1, hm, by omega, fun hp => ⟨x, rfl, trivial, ?_, fun i hi => ?_⟩⟩
    · have := cell_lt (h4 0 (by omega))
      rwa [add_block] at this
    · have hi2 : i < zs.length := by omega
      refine ⟨[.int .i64 (zs.getD i 0)], ⟨by rw [List.getElem_take, List.getD_eq_getElem?_getD, List.getElem?_eq_getElem hi2]; rfl, by rw [List.getElem_take]; exact wf_i64 (h5 _ (List.getElem_mem hi2))⟩, fun j u hu => ?_⟩
      cases j with
      | zero => rw [show i * Kd.i64.size + 0 = i from by simp [Kd.i64], h4 i hi2]; exact hu
      | succ j => simp at hu
theorem IsRow.row8 {w : World} {a : Option Addr} {len cap : Nat} {zs : List Int} (h : IsRow .i8 w a len cap zs) : len = (zs.take len).length ∧ len ≤ cap ∧ cap ≤ 9223372036854775807 ∧ Row Kd.i8 w All a (zs.take len) := by
  rcases h with ⟨rfl, rfl, rfl, rfl⟩ | ⟨x, rfl, h1, h2, h3, h4, h5⟩
  · exact ⟨rfl, Nat.le_refl _, by omega, Row.nil _ _ _⟩
  · have hl : (zs.take len).length = len := by rw [List.length_take]; omega
    have hm : cap ≤ 9223372036854775807 := by unfold maxLen at h2; omega
    refine ⟨hl.symm, h1, hm, by omega, fun hp => ⟨x, rfl, trivial, ?_, fun i hi => ?_⟩⟩
    · have := cell_lt (h4 0 (by omega))
      rwa [add_block] at this
    · have hi2 : i < zs.length := by omega
      refine ⟨[.int .i8 (zs.getD i 0)], ⟨by rw [List.getElem_take, List.getD_eq_getElem?_getD, List.getElem?_eq_getElem hi2]; rfl, by rw [List.getElem_take]; exact wf_i8 (h5 _ (List.getElem_mem hi2))⟩, fun j u hu => ?_⟩
      cases j with
      | zero => rw [show i * Kd.i8.size + 0 = i from by simp [Kd.i8], h4 i hi2]; exact hu
      | succ j => simp at hu
end Go.Proofs.Ythibocafjkbeeaa
