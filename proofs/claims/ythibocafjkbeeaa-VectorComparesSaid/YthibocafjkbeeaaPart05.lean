/-
  integer.Normalize, Neg and Int64: what they return. Condition: the integers have fewer limbs than a given bound.
-/
import Derived.Test.YthibocafjkbeeaaPart04
import Derived.Laws.CopyOwn
set_option linter.unusedVariables false
set_option linter.unusedSimpArgs false
namespace Go.Proofs.Ythibocafjkbeeaa
open Go.RowKit

/-- A boxed Int and a place for a result. -/
structure Br (w' : World) (H : Nat) (s : Bool) (A : Option Addr) (la c : Nat) : Prop where
  a0 : w'.cell? ⟨H, 0, none⟩ = some (.bool s)
  a1 : w'.cell? ⟨H, 1, none⟩ = some (.slice A la c)
  r0 : w'.cell? ⟨H + 1, 0, none⟩ = some (.bool false)
  r1 : w'.cell? ⟨H + 1, 1, none⟩ = some (.slice none 0 0)
  f0 : w'.frozen? ⟨H + 1, 0, none⟩ = false
  f1 : w'.frozen? ⟨H + 1, 1, none⟩ = false
theorem Br.ext {w w' : World} {H : Nat} {s : Bool} {A : Option Addr} {la c : Nat} (h : Br w H s A la c) (hb : Below w.heap.size w w') : Br w' H s A la c :=
  ⟨kept hb h.a0, kept hb h.a1, kept hb h.r0, kept hb h.r1, keptf hb h.r0 h.f0, keptf hb h.r1 h.f1⟩
theorem Br.below {B : Nat} {w w' : World} {H : Nat} {s : Bool} {A : Option Addr} {la c : Nat} (h : Br w H s A la c) (hb : Below B w w') (hB : H + 1 < B) : Br w' H s A la c :=
  ⟨(hb.cell (by simp; omega)).trans h.a0, (hb.cell (by simp; omega)).trans h.a1, (hb.cell hB).trans h.r0, (hb.cell hB).trans h.r1, (hb.frozen hB).trans h.f0, (hb.frozen hB).trans h.f1⟩
theorem Br.new (w : World) (s : Bool) (A : Option Addr) (la c : Nat) (T : TypeId) : Br ((w.alloc (.cells #[.bool s, .slice A la c] T)).alloc (.cells #[.bool false, .slice none 0 0] T)) w.heap.size s A la c := by
  have h2 : Own ((w.alloc (.cells #[.bool s, .slice A la c] T)).alloc (.cells #[.bool false, .slice none 0 0] T)) (w.heap.size + 1) T [.bool false, .slice none 0 0] := by
    have := Own.new (w.alloc (.cells #[.bool s, .slice A la c] T)) T #[.bool false, .slice none 0 0]
    simpa using this
  have h1 : Own ((w.alloc (.cells #[.bool s, .slice A la c] T)).alloc (.cells #[.bool false, .slice none 0 0] T)) w.heap.size T [.bool s, .slice A la c] := (Own.new w T #[.bool s, .slice A la c]).alloc _
  exact ⟨by rw [h1.cell]; rfl, by rw [h1.cell]; rfl, by rw [h2.cell]; rfl, by rw [h2.cell]; rfl, h2.free 0, h2.free 1⟩
theorem ext_alloc2 (w : World) (a b : Obj) : Below w.heap.size w ((w.alloc a).alloc b) := ext_alloc (ext_alloc (Below.refl _ _) _) _
theorem splice_all {α : Type} (L cs : List α) (h : L.length = cs.length) : splice L 0 cs = cs := by
  unfold splice
  rw [List.drop_of_length_le (by omega)]
  simp

set_option maxRecDepth 100000 in
set_option maxHeartbeats 1000000 in
theorem Normalize_any (ok : Nat → Prop) (s : Bool) (A : Option Addr) (la c n : Nat) (w : World) (ha : la = (dig n).length) (hc : la ≤ c) (hla : la ≤ lim) (hA : Row Kd.u32 w ok A (dig n)) :
    Calls Try.prog 66 #[.agg #[.bool s, .slice A la c]] w fun e w' => ∃ v, Big w' (Up ok w.heap.size) v (sgn s n) ∧ e = .returned v ∧ Below w.heap.size w w' := by
  refine veil fun R HP => ?_
  have HA := Lib.hid hA
  have EA := Lib.hid ha
  clear hA ha
  unfold lim at hla
  have hmk := make_limbs la (by omega)
  have X := Lib.hid (Br.new w s A la c 59)
  have B0 := Lib.hid (ext_alloc2 w (.cells #[.bool s, .slice A la c] 59) (.cells #[.bool false, .slice none 0 0] 59))
  have hz : w.heap.size + 1 < ((w.alloc (.cells #[.bool s, .slice A la c] 59)).alloc (.cells #[.bool false, .slice none 0 0] 59)).heap.size := by simp
  have Z := Lib.hid hz
  clear hz
  go_enter Try.func66, Try.ntmps66
  go_wp2_with fail
  generalize (w.alloc (.cells #[.bool s, .slice A la c] 59)).alloc (.cells #[.bool false, .slice none 0 0] 59) = w0 at X B0 Z ⊢
  obtain ⟨a0, a1, -, -, -, -⟩ := X.out
  refine (magnitude_dig ok s A _ c n _ EA.out hc (HA.out.ext B0.out)).mono ?_
  rintro e w1 ⟨rfl, hb⟩
  have X1 := Lib.hid (Br.ext X.out hb)
  have B1 := Lib.hid (ext_trans B0.out hb)
  have Z1 := Lib.hid (show w.heap.size + 1 < w1.heap.size from by have := Z.out; have := hb.size; omega)
  clear hb a0 a1
  have O2 := Lib.hid (OwnL.made w1 la)
  have X2 := Lib.hid (Br.ext X1.out (ext_alloc (Below.refl w1.heap.size w1) (.cells (madeCells #[.int .u32 0] la) 99)))
  have B2 := Lib.hid (ext_alloc B1.out (.cells (madeCells #[.int .u32 0] la) 99))
  obtain ⟨cur, hcur⟩ : ∃ cur, cur = limbs (List.replicate la 0) := ⟨_, rfl⟩
  obtain ⟨cs, hcs⟩ : ∃ cs, cs = limbs (dig n) := ⟨_, rfl⟩
  have G2 := Lib.hid (show (w1.alloc (.cells (madeCells #[.int .u32 0] la) 99)).heap[w1.heap.size]? = some (.cells cur.toArray 99 (0, 0)) from by rw [hcur]; exact O2.out.1)
  have hn := Lib.hid (show cs.length = Nat.min la la from by rw [hcs, limbs_length, ← EA.out]; exact (Nat.min_self _).symm)
  have hpos := Lib.hid (show 0 < cs.length → ∃ ad, A = some ad ∧ ∀ j v, cs[j]? = some v → (w1.alloc (.cells (madeCells #[.int .u32 0] la) 99)).cell? (ad.add j) = some v from fun h => by
    rw [hcs, limbs_length] at h
    obtain ⟨ad, e, -, -⟩ := (HA.out.ext B2.out).limb h
    refine ⟨ad, e, fun j v hj => ?_⟩
    rcases Nat.lt_or_ge j (dig n).length with hl | hl
    · obtain ⟨ad', e', c1, -⟩ := (HA.out.ext B2.out).limb hl
      obtain rfl : ad = ad' := by rw [e] at e'; injection e'
      rw [hcs, limbs_at _ _ hl] at hj
      rw [c1]; exact hj
    · rw [hcs, List.getElem?_eq_none (by rw [limbs_length]; exact hl)] at hj; cases hj)
  have hfit := Lib.hid (show 0 + cs.length ≤ cur.length from by rw [hcs, hcur, limbs_length, limbs_length, List.length_replicate, ← EA.out]; omega)
  have hone := Lib.hid (show ∀ v ∈ cs, v.oneCell' = true from fun v hv => by rw [hcs] at hv; simp only [limbs, List.mem_map] at hv; obtain ⟨x, -, rfl⟩ := hv; rfl)
  have hsz : (Try.prog.info? 99).map (·.size) = some 1 := by kernel_rfl
  have HSZ := Lib.hid hsz
  have HC := Lib.hid (And.intro hcur hcs)
  clear hsz hcur hcs
  go_wp2_with (with_reducible refine wpList_copy_splice rfl (.tmp 10) (.tmp 11) _ _ rfl 99 Try.underlying57 HSZ.out _ _ _ _ _ _ rfl rfl w1.heap.size 0 cur 99 G2.out cs hn.out (fun h => ⟨rfl, hpos.out h⟩) hfit.out hone.out w1.heap.size _ (Below.refl _ _) (Nat.le_refl _) ?_; intro w3 hg3 hb3; have X3 := Lib.hid (Br.below X2.out hb3 Z1.out); have B3 := Lib.hid ((B2.out.trans (hb3.mono (Nat.le_of_lt (Nat.lt_of_succ_lt Z1.out)))) : Below w.heap.size w w3); obtain ⟨a0, a1, -, -, -, -⟩ := X3.out; clear hb3)
  have hO : OwnL w3 w1.heap.size (dig n) := ⟨by
    have := hg3.out
    rw [HC.out.1, HC.out.2, splice_all _ _ (by rw [limbs_length, limbs_length, List.length_replicate, EA.out])] at this
    exact this, dig_lt n⟩
  refine (signed_dig (Up ok w.heap.size) s _ _ _ n _ EA.out (Nat.le_refl _) (hO.row (by rw [← EA.out]; omega) (.inr (by have := Z1.out; omega)))).mono ?_
  clear hO
  rintro e w4 ⟨v, ⟨A4, l4, c4, rfl, hv⟩, rfl, hb⟩
  have Q4 := Lib.hid hv
  have X4 := Lib.hid (Br.ext X3.out hb)
  have B4 := Lib.hid (ext_trans B3.out hb)
  clear hb hv a0 a1
  obtain ⟨-, -, r0, r1, f0, f1⟩ := X4.out
  go_wp2
  refine bodyPost_ret (v := .agg #[.bool (decide (sgn s n < 0)), .slice A4 l4 c4]) (by simp [results, Try.results66, go_sem, r0, r1]) rfl (HP.out _ _ ⟨_, ?_, rfl, ?_⟩)
  · exact ⟨A4, l4, c4, rfl, Q4.out.1, Q4.out.2.1, Q4.out.2.2.1, Row.set_other (Row.set_other Q4.out.2.2.2 r0 (fun x h => by cases h) _) (set_apart (by simp) r1) (fun x h => by cases h) _⟩
  · exact ext_set (ext_set B4.out (by simp) _) (by simp) _

theorem set_free (w : World) (p q : Addr) {u : Value} : (w.setCell p u).frozen? q = w.frozen? q := by simp
/-- What Normalize does to the canonical Int of an integer. -/
theorem sgn_big (z : Int) : sgn (decide (z < 0)) z.natAbs = z := by unfold sgn; split <;> simp at * <;> omega
set_option maxHeartbeats 1000000 in
theorem Neg_any (ok : Nat → Prop) (s : Bool) (A : Option Addr) (la c n : Nat) (w : World) (ha : la = (dig n).length) (hc : la ≤ c) (hla : la ≤ lim) (hA : Row Kd.u32 w ok A (dig n)) :
    Calls Try.prog 99 #[.agg #[.bool s, .slice A la c]] w fun e w' => ∃ v, Big w' (Up ok w.heap.size) v (-sgn s n) ∧ e = .returned v ∧ Below w.heap.size w w' := by
  refine veil fun R HP => ?_
  have HA := Lib.hid hA
  have EA := Lib.hid ha
  clear hA ha
  have X := Lib.hid (Br.new w s A la c 59)
  have B0 := Lib.hid (ext_alloc2 w (.cells #[.bool s, .slice A la c] 59) (.cells #[.bool false, .slice none 0 0] 59))
  have hz : Own ((w.alloc (.cells #[.bool s, .slice A la c] 59)).alloc (.cells #[.bool false, .slice none 0 0] 59)) w.heap.size 59 [.bool s, .slice A la c] := (Own.new w 59 #[.bool s, .slice A la c]).alloc _
  have Z := Lib.hid hz
  clear hz
  go_enter Try.func99, Try.ntmps99
  go_wp2_with fail
  generalize (w.alloc (.cells #[.bool s, .slice A la c] 59)).alloc (.cells #[.bool false, .slice none 0 0] 59) = w0 at X B0 Z ⊢
  obtain ⟨a0, a1, -, -, -, -⟩ := X.out
  refine (Normalize_any ok s A _ c n _ EA.out hc hla (HA.out.ext B0.out)).mono ?_
  rintro e w1 ⟨v, ⟨A1, l1, c1, rfl, hv⟩, rfl, hb⟩
  have Q1 := Lib.hid (And.intro hv.1 (And.intro hv.2.1 (And.intro hv.2.2.1 (hv.2.2.2.up2 B0.out))))
  have X1 := Lib.hid (Br.ext X.out hb)
  have Z1 := Lib.hid (Z.out.ext hb)
  have B1 := Lib.hid (ext_trans B0.out hb)
  clear hb hv a0 a1
  obtain ⟨a0, a1, -, -, -, -⟩ := X1.out
  have f0 := Z1.out.free 0
  have f1 := Z1.out.free 1
  go_wp2_with fail
  have hrow := Row.set_other (Row.set_other Q1.out.2.2.2 a0 (fun x h => by cases h) (.bool (decide (sgn s n < 0)))) (set_apart (by simp) a1) (fun x h => by cases h) (.slice A1 l1 c1)
  have hb0 := ext_set (ext_set B1.out (p := ⟨w.heap.size, 0, none⟩) (Nat.le_refl _) (.bool (decide (sgn s n < 0)))) (p := ⟨w.heap.size, 1, none⟩) (Nat.le_refl _) (.slice A1 l1 c1)
  rw [show dig (sgn s n).natAbs = dig n from by rw [sgn_abs]] at hrow
  refine (signed_dig (Up ok w.heap.size) (!decide (sgn s n < 0)) A1 _ _ n _ (by rw [Q1.out.1, sgn_abs]) Q1.out.2.1 hrow).mono ?_
  clear hrow
  rintro e w4 ⟨v, ⟨A4, l4, c4, rfl, hv⟩, rfl, hb⟩
  have r0 := kept hb (set_far (by simp) (set_far (by simp) X1.out.r0))
  have r1 := kept hb (set_far (by simp) (set_far (by simp) X1.out.r1))
  have g0 := keptf hb (set_far (by simp) (set_far (by simp) X1.out.r0)) ((set_free _ _ _).trans ((set_free _ _ _).trans X1.out.f0))
  have g1 := keptf hb (set_far (by simp) (set_far (by simp) X1.out.r1)) ((set_free _ _ _).trans ((set_free _ _ _).trans X1.out.f1))
  have Q4 := Lib.hid hv
  have B4 := Lib.hid (ext_trans hb0 hb)
  clear hb hv a0 a1 f0 f1 hb0
  have hneg : sgn (!decide (sgn s n < 0)) n = -sgn s n := by
    by_cases h0 : n = 0
    · rw [h0, sgn_zero, sgn_zero]; rfl
    · rw [sgn_neg s n h0, sgn_not]
  have HN := Lib.hid hneg
  clear hneg
  go_wp2
  refine bodyPost_ret (v := .agg #[.bool (decide (sgn (!decide (sgn s n < 0)) n < 0)), .slice A4 l4 c4]) (by simp [results, Try.results99, go_sem, r0, r1]) rfl (HP.out _ _ ⟨_, ?_, rfl, ?_⟩)
  · rw [← HN.out]
    exact ⟨A4, l4, c4, rfl, Q4.out.1, Q4.out.2.1, Q4.out.2.2.1, Row.set_other (Row.set_other Q4.out.2.2.2 r0 (fun x h => by cases h) _) (set_apart (by simp) r1) (fun x h => by cases h) _⟩
  · exact ext_set (ext_set B4.out (by simp) _) (by simp) _
end Go.Proofs.Ythibocafjkbeeaa
/-
  A slice that the call itself makes and appends to: what it holds, element by element, and how append acts on it. Condition: the bytes stay below a given bound.
-/
namespace Go.Proofs.Ythibocafjkbeeaa
open Go.RowKit

/-- A slice that the call owns: the data of its elements; the elements' own memory lies in ok, apart from the row itself. -/
structure Grow {α : Type} (k : Kd α) (w : World) (base : Nat) (T : TypeId) (ok : Nat → Prop) (v : Value) (xs : List α) : Prop where
  out : ∃ cs, w.ownsRow base T k.size v xs.length cs ∧ ∀ (i : Nat) (hi : i < xs.length), k.K w (fun b => ok b ∧ v.ownBlock ≠ some b) xs[i] ((cs.drop (i * k.size)).take k.size)
section
variable {α : Type} {k : Kd α} {w w' : World} {base : Nat} {T : TypeId} {ok ok' : Nat → Prop} {v : Value} {xs : List α}
theorem Grow.nil (w : World) (base : Nat) (T : TypeId) (ok : Nat → Prop) : Grow k w base T ok (.slice none 0 0) ([] : List α) :=
  ⟨[], World.ownsRow_nil _ _ _ _, fun i hi => by simp at hi⟩
theorem own_lt {size n : Nat} {cs : List Value} (h : w.ownsRow base T size v n cs) (g : Nat) (hg : v.ownBlock = some g) : base ≤ g ∧ g < w.heap.size := h.lt g hg
theorem Grow.lt (h : Grow k w base T ok v xs) (g : Nat) (hg : v.ownBlock = some g) : base ≤ g ∧ g < w.heap.size := by
  obtain ⟨cs, h1, _⟩ := h.out
  exact h1.lt g hg
/-- Nothing of it has been written. -/
theorem Grow.keep (h : Grow k w base T ok v xs) (hg : w.grownBy w' none) : Grow k w' base T ok v xs := by
  obtain ⟨cs, h1, h2⟩ := h.out
  refine ⟨cs, h1.kept hg (by cases v.ownBlock <;> simp), fun i hi => k.keep (h2 i hi) fun b _ hb => hg.block b hb (by simp)⟩
theorem grown_of {w w' : World} (h : Below w.heap.size w w') : w.grownBy w' none := ⟨h.os, h.tape, h.output, h.size, fun i hi _ => h.block i hi⟩
theorem Grow.ext (h : Grow k w base T ok v xs) (hb : Below w.heap.size w w') : Grow k w' base T ok v xs := h.keep (grown_of hb)
theorem Grow.weak (h : Grow k w base T ok v xs) (hk : ∀ b, ok b → b < w.heap.size → ok' b) : Grow k w base T ok' v xs := by
  obtain ⟨cs, h1, h2⟩ := h.out
  exact ⟨cs, h1, fun i hi => k.weak (h2 i hi) fun b hb hl => ⟨hk b hb.1 hl, hb.2⟩⟩
/-- As a row that is read. -/
theorem Grow.row (h : Grow k w base T ok v xs) (hok : ∀ g, base ≤ g → ok g) : ∃ A c, v = .slice A xs.length c ∧ xs.length ≤ c ∧ c ≤ 9223372036854775807 ∧ Row k w ok A xs := by
  obtain ⟨cs, h1, h2⟩ := h.out
  have h1' := h1
  obtain ⟨hl, hv⟩ := h1
  rcases hv with ⟨rfl, hn⟩ | ⟨g, cap, cur, rfl, hb, hh, hc, hm, hs, ht⟩
  · have : xs = [] := List.eq_nil_of_length_eq_zero hn
    subst this
    exact ⟨none, 0, rfl, by simp, by omega, Row.nil _ _ _⟩
  · simp only [maxLen] at hm
    refine ⟨_, cap, rfl, hc, by omega, by omega, fun hp => ⟨_, rfl, hok g hb, ?_, fun i hi => ⟨_, k.weak (h2 i hi) fun b hb _ => hb.1, fun j u hu => ?_⟩⟩⟩
    · rcases Nat.lt_or_ge g w.heap.size with hlt | hge
      · exact hlt
      · rw [Array.getElem?_eq_none hge] at hh; cases hh
    · refine h1'.cells (g := g) rfl _ u ?_
      have hj : j < k.size := by
        rcases Nat.lt_or_ge j k.size with hj | hj
        · exact hj
        · rw [List.getElem?_eq_none (by rw [List.length_take]; omega)] at hu; cases hu
      rw [List.getElem?_take_of_lt hj, List.getElem?_drop] at hu
      exact hu
/-- append(v, y): behind 'at_builtin'. -/
theorem wpList_push {P : Program} {ops : Array Oper} {rest : List Oper} {o : Oper} {a : Act} {Q : Exit → Act → World → Prop} (hgd : o.guard = none) (s x : Operand) (t : TypeId)
    (ho : o.op = .call { callee := .builtin .append, args := #[s, x], argTypes := #[t, t] })
    (z : Value) (bytes : Nat) (ht : P.underlying t = some (.slice T)) (hinfo : (P.info? T).map (fun i => (i.zero, i.size, i.bytes)) = some (some z, k.size, bytes)) (hzs : z.cells.size = k.size) (hsz : 0 < k.size)
    (hs : a.eval s = v) (HO : Grow k w base T ok v xs) (y : α) (ys : List Value) (hK : k.K w (fun b => ok b ∧ v.ownBlock ≠ some b) y ys) (ad : Addr) (c : Nat) (hx : a.eval x = .slice (some ad) 1 c)
    (hnews : ∀ j u, ys[j]? = some u → w.cell? (ad.add j) = some u) (h1 : ∀ u ∈ ys, u.oneCell' = true)
    (hl : xs.length + 1 ≤ 9223372036854775807) (hbytes : (xs.length + 1) * bytes ≤ 140737488355328) (hbase : base ≤ w.heap.size)
    (h : ∀ v' w', Grow k w' base T ok v' (xs ++ [y]) → w.grownBy w' v.ownBlock → (v'.ownBlock = v.ownBlock ∨ v'.ownBlock = some w.heap.size) → wpList P ops Q rest (a.put o.dst v') w') :
    wpList P ops Q (o :: rest) a w := by
  obtain ⟨i0, hi, hzz⟩ := Option.map_eq_some_iff.1 hinfo
  simp only [Prod.mk.injEq] at hzz
  obtain ⟨hz0, hz1, hz2⟩ := hzz
  obtain ⟨cs, hown, hel⟩ := HO.out
  refine wpList_append_own_at w hgd s x t ho base T i0 z k.size bytes ht hi hz0 hz1 hz2 hzs hsz v xs.length cs hs hown ad 1 c ys hx (by rw [k.len hK]; omega) hnews h1 (by simp only [maxLen]; omega) hbytes hbase ?_
  intro v' w' hown' hg _ hat
  have hblk : ∀ b, (ok b ∧ v.ownBlock ≠ some b) → b < w.heap.size → w'.heap[b]? = w.heap[b]? := fun b hb hl => hg.block b hl (fun e => hb.2 e.symm)
  have hoff : ∀ b, (ok b ∧ v.ownBlock ≠ some b) → b < w.heap.size → (ok b ∧ v'.ownBlock ≠ some b) := fun b hb hl => ⟨hb.1, by
    rcases hat with e | e
    · rw [e]; exact hb.2
    · rw [e]; intro h; injection h with h; omega⟩
  have step : ∀ {x : α} {c : List Value}, k.K w (fun b => ok b ∧ v.ownBlock ≠ some b) x c → k.K w' (fun b => ok b ∧ v'.ownBlock ≠ some b) x c := fun hk =>
    k.weak (k.keep (k.weak hk (ok' := fun b => (ok b ∧ v.ownBlock ≠ some b) ∧ b < w.heap.size) fun b hb hl => ⟨hb, hl⟩) fun b hb _ => hblk b hb.1 hb.2) fun b hb _ => hoff b hb.1 hb.2
  refine h v' w' ⟨cs ++ ys, by simpa using hown', fun i hi => ?_⟩ hg hat
  have hcl := hown.1
  by_cases hlt : i < xs.length
  · have hm : i * k.size + k.size ≤ cs.length := by rw [hcl, ← Nat.succ_mul]; exact Nat.mul_le_mul_right _ hlt
    have e1 : ((cs ++ ys).drop (i * k.size)).take k.size = (cs.drop (i * k.size)).take k.size := by
      rw [List.drop_append_of_le_length (by omega), List.take_append_of_le_length (by rw [List.length_drop]; omega)]
    rw [e1, List.getElem_append_left hlt]
    exact step (hel i hlt)
  · have hi' : i = xs.length := by simp at hi; omega
    subst hi'
    have e1 : ((cs ++ ys).drop (xs.length * k.size)).take k.size = ys := by
      rw [← hcl, List.drop_left, List.take_of_length_le (by rw [k.len hK]; omega)]
    rw [e1, List.getElem_append_right (Nat.le_refl _)]
    simp only [Nat.sub_self, List.getElem_cons_zero]
    exact step hK
/-- All cells of a row, in one list. -/
theorem Row.cells {A : Option Addr} (h : Row k w ok A xs) : ∃ cs : List Value, cs.length = xs.length * k.size ∧ (∀ (i : Nat) (hi : i < xs.length), k.K w ok xs[i] ((cs.drop (i * k.size)).take k.size)) ∧
    (0 < xs.length → ∃ ad, A = some ad ∧ ok ad.block ∧ ad.block < w.heap.size ∧ ∀ j u, cs[j]? = some u → w.cell? (ad.add j) = some u) := by
  rcases Nat.eq_zero_or_pos xs.length with h0 | h0
  · exact ⟨[], by simp [h0], fun i hi => by omega, fun hp => by omega⟩
  obtain ⟨ad, e, ho, hb, hc⟩ := h.2 h0
  have key : ∀ m, m ≤ xs.length → ∃ cs : List Value, cs.length = m * k.size ∧ (∀ (i : Nat) (hi : i < xs.length), i < m → k.K w ok xs[i] ((cs.drop (i * k.size)).take k.size)) ∧ ∀ j u, cs[j]? = some u → w.cell? (ad.add j) = some u := by
    intro m
    induction m with
    | zero => intro _; exact ⟨[], by simp, fun i _ hi => by omega, fun j u hu => by simp at hu⟩
    | succ m ih =>
      intro hm
      obtain ⟨cs, hl, h1, h2⟩ := ih (by omega)
      obtain ⟨ds, hK, hd⟩ := hc m (by omega)
      have hdl := k.len hK
      refine ⟨cs ++ ds, by rw [List.length_append, hl, hdl, Nat.succ_mul], fun i hi him => ?_, fun j u hu => ?_⟩
      · by_cases hlt : i < m
        · have hle : i * k.size + k.size ≤ cs.length := by rw [hl, ← Nat.succ_mul]; exact Nat.mul_le_mul_right _ hlt
          rw [List.drop_append_of_le_length (by omega), List.take_append_of_le_length (by rw [List.length_drop]; omega)]
          exact h1 i hi hlt
        · obtain rfl : i = m := by omega
          rw [← hl, List.drop_left, List.take_of_length_le (by omega)]
          exact hK
      · rcases Nat.lt_or_ge j cs.length with hj | hj
        · rw [List.getElem?_append_left hj] at hu
          exact h2 j u hu
        · rw [List.getElem?_append_right hj] at hu
          have := hd _ u hu
          rwa [show m * k.size + (j - cs.length) = j from by omega] at this
  obtain ⟨cs, hl, h1, h2⟩ := key xs.length (Nat.le_refl _)
  exact ⟨cs, hl, fun i hi => h1 i hi hi, fun _ => ⟨ad, e, ho, hb, h2⟩⟩
/-- append(v, ys...): behind 'at_builtin'. -/
theorem wpList_cat {P : Program} {ops : Array Oper} {rest : List Oper} {o : Oper} {a : Act} {Q : Exit → Act → World → Prop} (hgd : o.guard = none) (s x : Operand) (t : TypeId)
    (ho : o.op = .call { callee := .builtin .append, args := #[s, x], argTypes := #[t, t] })
    (z : Value) (bytes : Nat) (ht : P.underlying t = some (.slice T)) (hinfo : (P.info? T).map (fun i => (i.zero, i.size, i.bytes)) = some (some z, k.size, bytes)) (hzs : z.cells.size = k.size) (hsz : 0 < k.size)
    (hs : a.eval s = v) (HO : Grow k w base T ok v xs) (A : Option Addr) (m c : Nat) (ys : List α) (hm : m = ys.length) (hx : a.eval x = .slice A m c) (HR : Row k w (fun b => ok b ∧ v.ownBlock ≠ some b) A ys)
    (hl : xs.length + m ≤ 9223372036854775807) (hbytes : (xs.length + m) * bytes ≤ 140737488355328) (hbase : base ≤ w.heap.size)
    (h : ∀ v' w', Grow k w' base T ok v' (xs ++ ys) → w.grownBy w' v.ownBlock → (v'.ownBlock = v.ownBlock ∨ v'.ownBlock = some w.heap.size) → wpList P ops Q rest (a.put o.dst v') w') :
    wpList P ops Q (o :: rest) a w := by
  subst hm
  obtain ⟨i0, hi, hzz⟩ := Option.map_eq_some_iff.1 hinfo
  simp only [Prod.mk.injEq] at hzz
  obtain ⟨hz0, hz1, hz2⟩ := hzz
  obtain ⟨cs, hown, hel⟩ := HO.out
  obtain ⟨ds, hdl, hdk, hda⟩ := HR.cells
  have hone : ∀ u ∈ ds, u.oneCell' = true := by
    intro u hu
    obtain ⟨j, hj, rfl⟩ := List.mem_iff_getElem.1 hu
    have hs0 : 0 < k.size := hsz
    have hjd : j / k.size < ys.length := by rw [Nat.div_lt_iff_lt_mul hs0]; omega
    refine k.one (hdk (j / k.size) hjd) _ ?_
    rw [List.mem_iff_getElem?]
    refine ⟨j % k.size, ?_⟩
    rw [List.getElem?_take_of_lt (Nat.mod_lt _ hs0), List.getElem?_drop, Nat.mul_comm, Nat.div_add_mod, List.getElem?_eq_getElem hj]
  have hrun : ∃ v' w', (Builtin.append_ #[t, t] o.type #[v, .slice A ys.length c]).run P w = .ok v' w' ∧ w'.ownsRow base T k.size v' (xs.length + ys.length) (cs ++ ds) ∧ w.grownBy w' v.ownBlock ∧ (v'.ownBlock = v.ownBlock ∨ v'.ownBlock = some w.heap.size) := by
    rcases Nat.eq_zero_or_pos ys.length with h0 | h0
    · have hds : ds = [] := List.eq_nil_of_length_eq_zero (by rw [hdl, h0]; simp)
      rcases A with _ | ad
      · refine ⟨v, w, ?_, by rw [hds, h0]; simpa using hown, ⟨rfl, rfl, rfl, Nat.le_refl _, fun _ _ _ => rfl⟩, .inl rfl⟩
        rw [h0]
        rcases hown.2 with ⟨rfl, hn⟩ | ⟨g, cap, cur, rfl, _, _, hnc, _⟩
        · simp [Builtin.append_, run_underlying ht, sizeOf, typeInfo, hi, Builtin.lenOf, Builtin.firstCells]
        · simp [Builtin.append_, run_underlying ht, sizeOf, typeInfo, hi, Builtin.lenOf, Builtin.firstCells, hnc, storeCells]
      · obtain ⟨v', w', hr, h2, h3, _, h5⟩ := run_append_own_at (P := P) w base t o.type T i0 z k.size bytes ht hi hz0 hz1 hz2 hzs hsz v xs.length cs hown ad ys.length c ds hdl (fun j u hu => by rw [hds] at hu; simp at hu) hone (by simp only [maxLen]; omega) hbytes hbase
        exact ⟨v', w', hr, h2, h3, h5⟩
    · obtain ⟨ad, rfl, _, _, hcells⟩ := hda h0
      obtain ⟨v', w', hr, h2, h3, _, h5⟩ := run_append_own_at (P := P) w base t o.type T i0 z k.size bytes ht hi hz0 hz1 hz2 hzs hsz v xs.length cs hown ad ys.length c ds hdl hcells hone (by simp only [maxLen]; omega) hbytes hbase
      exact ⟨v', w', hr, h2, h3, h5⟩
  obtain ⟨v', w', hr, hown', hg, hat⟩ := hrun
  have hblk : ∀ b, (ok b ∧ v.ownBlock ≠ some b) → b < w.heap.size → w'.heap[b]? = w.heap[b]? := fun b hb hl => hg.block b hl (fun e => hb.2 e.symm)
  have hoff : ∀ b, (ok b ∧ v.ownBlock ≠ some b) → b < w.heap.size → (ok b ∧ v'.ownBlock ≠ some b) := fun b hb hl => ⟨hb.1, by
    rcases hat with e | e
    · rw [e]; exact hb.2
    · rw [e]; intro h; injection h with h; omega⟩
  have step : ∀ {x : α} {c : List Value}, k.K w (fun b => ok b ∧ v.ownBlock ≠ some b) x c → k.K w' (fun b => ok b ∧ v'.ownBlock ≠ some b) x c := fun hk =>
    k.weak (k.keep (k.weak hk (ok' := fun b => (ok b ∧ v.ownBlock ≠ some b) ∧ b < w.heap.size) fun b hb hl => ⟨hb, hl⟩) fun b hb _ => hblk b hb.1 hb.2) fun b hb _ => hoff b hb.1 hb.2
  have hG : Grow k w' base T ok v' (xs ++ ys) := by
    refine ⟨cs ++ ds, by rw [List.length_append]; exact hown', fun i hi => ?_⟩
    have hcl := hown.1
    by_cases hlt : i < xs.length
    · have hm : i * k.size + k.size ≤ cs.length := by rw [hcl, ← Nat.succ_mul]; exact Nat.mul_le_mul_right _ hlt
      rw [List.drop_append_of_le_length (by omega), List.take_append_of_le_length (by rw [List.length_drop]; omega), List.getElem_append_left hlt]
      exact step (hel i hlt)
    · have hi2 : i - xs.length < ys.length := by rw [List.length_append] at hi; omega
      have e1 : (cs ++ ds).drop (i * k.size) = ds.drop ((i - xs.length) * k.size) := by
        rw [List.drop_append, List.drop_of_length_le (by rw [hcl]; exact Nat.mul_le_mul_right _ (by omega)), List.nil_append, hcl, Nat.sub_mul]
      rw [e1, List.getElem_append_right (by omega)]
      exact step (hdk _ hi2)
  refine wpList_plain hgd fun K hK => ?_
  unfold Oper.wp execOp
  simp only [ho, resolve, invoke, builtin, Sem.run_bind, Sem.run_pure, Result.andThen_ok, List.map_toArray, List.map_cons, List.map_nil, hs, hx, hr]
  exact hK _ _ (h v' w' hG hg hat)
end
end Go.Proofs.Ythibocafjkbeeaa
