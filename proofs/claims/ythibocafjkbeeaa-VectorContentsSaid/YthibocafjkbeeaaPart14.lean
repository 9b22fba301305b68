/-
  vector's sorter: the items in order, one of several equal ones. No condition but that the arguments can be read.
-/
import Derived.Test.YthibocafjkbeeaaPart13
import Derived.Shelf.SlSortCmp.NoneTotal
set_option linter.unusedVariables false
set_option linter.unusedSimpArgs false
namespace Go.Proofs.Ythibocafjkbeeaa
open Go.RowKit

set_option maxRecDepth 100000 in
theorem Compact_none (F : Value) (w : World) : Calls Try.prog 43 #[.slice none 0 0, F] w fun e w' => e = .returned (.slice none 0 0) ∧ w' = w := by
  refine veil fun R HP => ?_
  go_enter Try.func43, Try.ntmps43
  go_wp2
  exact HP.out _ _ ⟨rfl, rfl⟩
theorem grow_shape {w : World} {base n : Nat} {T : TypeId} {ok : Nat → Prop} {v : Value} {items : List (Int × List Int)} (h : Grow Kd.nv w base T ok v items) (hn : n = items.length) : (v = .slice none 0 0 ∧ items = []) ∨ ∃ g cap, v = .slice (some ⟨g, 0, none⟩) n cap := by
  subst hn
  obtain ⟨cs, hown, -⟩ := h.out
  rcases hown.2 with ⟨h1, h2⟩ | ⟨g, cap, cur, h1, -⟩
  · have := hown.1
    cases items with
    | nil => exact .inl ⟨h1, rfl⟩
    | cons a l => exact absurd h2 (by simp)
  · exact .inr ⟨g, cap, h1⟩
set_option maxRecDepth 100000 in
set_option maxHeartbeats 2000000 in
theorem sorted_any (ok : Nat → Prop) (A : Option Addr) (n c : Nat) (items : List (Int × List Int)) (w : World) (hn : n = items.length) (hb : n * 32 ≤ 140737488355328) (h1 : Row Kd.nv w ok A items) :
    Calls Try.prog 27 #[.agg #[.slice A n c, .func (.func 24) #[] #[]]] w fun e w' => ∃ v L, Grow Kd.nv w' (w.heap.size + 1) 51 (fun b => ok b ∧ b < w.heap.size + 1 ∨ w.heap.size + 1 ≤ b) v L ∧ e = .returned v ∧ ((Asc L ∧ ∀ p, p ∈ L ↔ p ∈ items) ∧ L.length ≤ n) ∧ Below w.heap.size w w' := by
  refine veil fun R HP => ?_
  have B0 := Lib.hid (ext_alloc (Below.refl w.heap.size w) (.cells #[.slice A n c, .func (.func 24) #[] #[]] 55))
  have H1 := Lib.hid (h1.ext B0.out)
  have HN := Lib.hid hn
  have SB := Lib.hid (show (w.alloc (.cells #[.slice A n c, .func (.func 24) #[] #[]] 55)).cell? ⟨w.heap.size, 1, none⟩ = some (.func (.func 24) #[] #[]) from (Own.new w 55 #[.slice A n c, .func (.func 24) #[] #[]]).cell 1)
  have HS := Lib.hid (show (w.alloc (.cells #[.slice A n c, .func (.func 24) #[] #[]] 55)).heap.size = w.heap.size + 1 from by simp)
  clear h1 hn
  go_enter Try.func27, Try.ntmps27
  go_wp2_with fail
  generalize w.alloc (.cells #[.slice A n c, .func (.func 24) #[] #[]] 55) = w0 at B0 H1 SB HS ⊢
  with_reducible refine (Clone_nv ok A n c items _ HN.out hb H1.out).mono ?_
  rintro e w1 ⟨v, hv, rfl, hbl⟩
  rw [HS.out] at hv
  have SB1 := Lib.hid (kept hbl SB.out)
  have B1 := Lib.hid (ext_trans B0.out hbl)
  clear hbl
  rcases grow_shape hv HN.out with ⟨rfl, hi⟩ | ⟨g, cap, rfl⟩
  · have sc := SB1.out
    clear hv
    go_wp2_with (first | (go_at_call 42; refine (AnyF.slices_SortFunc_none (P := Try.prog) (ρ := sortRen) sortLay none 0 _ _).mono ?_; rintro e w2 ⟨rfl, hb⟩; subst hb) | (go_at_call 43; refine (Compact_none _ _).mono ?_; rintro e w3 ⟨rfl, hb⟩; subst hb))
    exact HP.out _ _ ⟨_, [], Grow.nil _ _ _ _, rfl, ⟨⟨List.Pairwise.nil, fun p => by rw [hi]⟩, Nat.zero_le _⟩, B1.out⟩
  · have G1 := Lib.hid hv
    have hge := Lib.hid (hv.lt g rfl).1
    have sc := SB1.out
    clear hv
    go_wp2_with fail
    with_reducible refine (SortFunc_any (w.heap.size + 1) _ g n cap items _ HN.out (by omega) G1.out).mono ?_
    rintro e w2 ⟨rfl, items', hperm, hsort, hg2, hgr2⟩
    have hn' : n = items'.length := by rw [hperm.length_eq]; exact HN.out
    have SB2 := Lib.hid (cell_grown hgr2 (by have := hge.out; omega) SB1.out)
    have B2 := Lib.hid (ext_grown B1.out hgr2 fun k e => by have e2 : g = k := Option.some.inj e; have := hge.out; omega)
    have G2 := Lib.hid hg2
    have PM := Lib.hid (And.intro hperm (And.intro hsort hn'))
    clear hg2 hgr2 hperm hsort sc hn'
    go_wp2_with fail
    with_reducible refine (Compact_any (w.heap.size + 1) _ g n cap w.heap.size items' _ (by have := hge.out; omega) PM.out.2.2 (by omega) G2.out SB2.out).mono ?_
    rintro e w3 ⟨rfl, hg3, hgr3⟩
    have G3 := Lib.hid hg3
    have B3 := Lib.hid (ext_grown B2.out hgr3 fun k e => by have e2 : g = k := Option.some.inj e; have := hge.out; omega)
    clear hg3 hgr3
    go_wp2
    obtain ⟨hperm, hsort, hn'⟩ := PM.out
    refine HP.out _ _ ⟨_, ddp items' n, G3.out, rfl, ⟨⟨ddp_asc items' (fun i j h1 h2 => by have := hsort i j h1 (by omega); omega) n (by omega), fun p => ?_⟩, ddp_le _ _⟩, B3.out⟩
    rw [ddp_mem items' p n (by omega), hn', List.take_length]
    exact hperm.mem_iff
end Go.Proofs.Ythibocafjkbeeaa
