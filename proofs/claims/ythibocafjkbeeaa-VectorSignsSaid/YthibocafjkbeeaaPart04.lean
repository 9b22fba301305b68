/-
  integer.Add, Sub, Mul: sums, differences and products of integers. Condition: the integers have fewer limbs than a given bound.
-/
import Derived.Test.YthibocafjkbeeaaPart03
import Derived.Deep.DeepMust
set_option linter.unusedVariables false
set_option linter.unusedSimpArgs false
namespace Go.Proofs.Ythibocafjkbeeaa
open Go.RowKit

theorem keptf {w w1 : World} (hb : Below w.heap.size w w1) {p : Addr} {u : Value} {b : Bool} (c : w.cell? p = some u) (f : w.frozen? p = b) : w1.frozen? p = b := (hb.frozen (World.block_lt_of_cell? w p c)).trans f
/-- Three new blocks: two boxed Ints and a place for a result. -/
structure Bx3 (w' : World) (H : Nat) (s t : Bool) (A B : Option Addr) (la lb c d : Nat) : Prop where
  a0 : w'.cell? ⟨H, 0, none⟩ = some (.bool s)
  a1 : w'.cell? ⟨H, 1, none⟩ = some (.slice A la c)
  b0 : w'.cell? ⟨H + 1, 0, none⟩ = some (.bool t)
  b1 : w'.cell? ⟨H + 1, 1, none⟩ = some (.slice B lb d)
  r0 : w'.cell? ⟨H + 1 + 1, 0, none⟩ = some (.bool false)
  r1 : w'.cell? ⟨H + 1 + 1, 1, none⟩ = some (.slice none 0 0)
  f0 : w'.frozen? ⟨H + 1 + 1, 0, none⟩ = false
  f1 : w'.frozen? ⟨H + 1 + 1, 1, none⟩ = false
theorem Bx3.ext {w w' : World} {H : Nat} {s t : Bool} {A B : Option Addr} {la lb c d : Nat} (h : Bx3 w H s t A B la lb c d) (hb : Below w.heap.size w w') : Bx3 w' H s t A B la lb c d :=
  ⟨kept hb h.a0, kept hb h.a1, kept hb h.b0, kept hb h.b1, kept hb h.r0, kept hb h.r1, keptf hb h.r0 h.f0, keptf hb h.r1 h.f1⟩
theorem Bx3.new (w : World) (s t : Bool) (A B : Option Addr) (la lb c d : Nat) (T : TypeId) : Bx3 (((w.alloc (.cells #[.bool s, .slice A la c] T)).alloc (.cells #[.bool t, .slice B lb d] T)).alloc (.cells #[.bool false, .slice none 0 0] T)) w.heap.size s t A B la lb c d := by
  have h3 : Own (((w.alloc (.cells #[.bool s, .slice A la c] T)).alloc (.cells #[.bool t, .slice B lb d] T)).alloc (.cells #[.bool false, .slice none 0 0] T)) (w.heap.size + 1 + 1) T [.bool false, .slice none 0 0] := by
    have := Own.new ((w.alloc (.cells #[.bool s, .slice A la c] T)).alloc (.cells #[.bool t, .slice B lb d] T)) T #[.bool false, .slice none 0 0]
    simpa using this
  have h2 : Own (((w.alloc (.cells #[.bool s, .slice A la c] T)).alloc (.cells #[.bool t, .slice B lb d] T)).alloc (.cells #[.bool false, .slice none 0 0] T)) (w.heap.size + 1) T [.bool t, .slice B lb d] := by
    have := (Own.new (w.alloc (.cells #[.bool s, .slice A la c] T)) T #[.bool t, .slice B lb d]).alloc (.cells #[.bool false, .slice none 0 0] T)
    simpa using this
  have h1 : Own (((w.alloc (.cells #[.bool s, .slice A la c] T)).alloc (.cells #[.bool t, .slice B lb d] T)).alloc (.cells #[.bool false, .slice none 0 0] T)) w.heap.size T [.bool s, .slice A la c] := by
    have := ((Own.new w T #[.bool s, .slice A la c]).alloc (.cells #[.bool t, .slice B lb d] T)).alloc (.cells #[.bool false, .slice none 0 0] T)
    simpa using this
  exact ⟨by rw [h1.cell]; rfl, by rw [h1.cell]; rfl, by rw [h2.cell]; rfl, by rw [h2.cell]; rfl, by rw [h3.cell]; rfl, by rw [h3.cell]; rfl, h3.free 0, h3.free 1⟩
theorem Bx3.drew {w : World} {H : Nat} {s t : Bool} {A B : Option Addr} {la lb c d : Nat} (h : Bx3 w H s t A B la lb c d) : Bx3 w.drew H s t A B la lb c d := ⟨h.a0, h.a1, h.b0, h.b1, h.r0, h.r1, h.f0, h.f1⟩
theorem set_apart {w : World} {p q : Addr} {u v : Value} (h : p ≠ q) (c : w.cell? q = some v) : (w.setCell p u).cell? q = some v := (World.cell?_setCell_other _ _ _ _ h).trans c
theorem set_far {w : World} {p q : Addr} {u v : Value} (h : p.block ≠ q.block) (c : w.cell? q = some v) : (w.setCell p u).cell? q = some v := (World.cell?_of_block (Below.heap_setCell w p u q.block h.symm)).trans c
/-- The two arguments' boxes stand while the result is stored. -/
structure Bx2 (w' : World) (H : Nat) (s t : Bool) (A B : Option Addr) (la lb c d : Nat) : Prop where
  a0 : w'.cell? ⟨H, 0, none⟩ = some (.bool s)
  a1 : w'.cell? ⟨H, 1, none⟩ = some (.slice A la c)
  b0 : w'.cell? ⟨H + 1, 0, none⟩ = some (.bool t)
  b1 : w'.cell? ⟨H + 1, 1, none⟩ = some (.slice B lb d)
theorem Bx3.far {w : World} {H : Nat} {s t : Bool} {A B : Option Addr} {la lb c d : Nat} (h : Bx3 w H s t A B la lb c d) {x y : Value} : Bx2 ((w.setCell ⟨H + 1 + 1, 0, none⟩ x).setCell ⟨H + 1 + 1, 1, none⟩ y) H s t A B la lb c d :=
  ⟨set_far (by simp; omega) (set_far (by simp; omega) h.a0), set_far (by simp; omega) (set_far (by simp; omega) h.a1), set_far (by simp) (set_far (by simp) h.b0), set_far (by simp) (set_far (by simp) h.b1)⟩
theorem Row.up2 {α : Type} {k : Kd α} {w w1 w2 : World} {ok : Nat → Prop} {A : Option Addr} {xs : List α} (h : Row k w2 (Up ok w1.heap.size) A xs) (hb : Below w.heap.size w w1) : Row k w2 (Up ok w.heap.size) A xs :=
  h.weak fun b h _ => h.elim .inl fun h => .inr (Nat.le_trans hb.size h)
/-- A store over a cell that is no limb leaves rows of limbs alone. -/
theorem Row.set_other {w : World} {ok : Nat → Prop} {A : Option Addr} {xs : List Nat} (h : Row Kd.u32 w ok A xs) {p : Addr} {v0 : Value} (c : w.cell? p = some v0) (hv : ∀ x, v0 ≠ .int .u32 x) (u : Value) : Row Kd.u32 (w.setCell p u) ok A xs := by
  refine ⟨h.1, fun hp => ?_⟩
  obtain ⟨ad, e, ho, hb, hc⟩ := h.2 hp
  refine ⟨ad, e, ho, by simpa [World.setCell] using hb, fun i hi => ?_⟩
  obtain ⟨cs, ⟨rfl, hlt⟩, hcs⟩ := hc i hi
  refine ⟨_, ⟨rfl, hlt⟩, fun j v hj => ?_⟩
  have hq := hcs j v hj
  have hvj : ∃ x, v = .int .u32 x := by
    cases j with
    | zero => exact ⟨_, by simpa using hj.symm⟩
    | succ j => simp at hj
  rw [World.cell?_setCell_other _ _ _ _ (fun e => by rw [e, hq] at c; obtain ⟨x, rfl⟩ := hvj; exact hv x (Option.some.inj c).symm)]
  exact hq
theorem sgn_mul (s t : Bool) (m n : Nat) : sgn s m * sgn t n = sgn (!s == t) (m * n) := by
  cases s <;> cases t <;> simp [sgn, Int.neg_mul_neg, Int.natCast_mul, Int.neg_mul, Int.mul_neg]
theorem signed_dig (ok : Nat → Prop) (s : Bool) (A : Option Addr) (l c n : Nat) (w : World) (hl : l = (dig n).length) (hn : l ≤ c) (h : Row Kd.u32 w ok A (dig n)) :
    Calls Try.prog 57 #[.bool s, .slice A l c] w fun e w' => ∃ v, Big w' ok v (sgn s n) ∧ e = .returned v ∧ Below w.heap.size w w' := by
  subst hl
  have := signed_any ok s A c (dig n) w hn h
  rwa [val_dig] at this
theorem ext_alloc3 (w : World) (a b c : Obj) : Below w.heap.size w (((w.alloc a).alloc b).alloc c) := ext_alloc (ext_alloc (ext_alloc (Below.refl _ _) _) _) _

set_option maxHeartbeats 1000000 in
theorem Mul_any (ok : Nat → Prop) (s t : Bool) (A B : Option Addr) (la lb c d m n : Nat) (w : World) (ha : la = (dig m).length) (hb : lb = (dig n).length) (hc : la ≤ c) (hd : lb ≤ d) (hla : la ≤ lim) (hlb : lb ≤ lim) (hA : Row Kd.u32 w ok A (dig m)) (hB : Row Kd.u32 w ok B (dig n)) :
    Calls Try.prog 40 #[.agg #[.bool s, .slice A la c], .agg #[.bool t, .slice B lb d]] w fun e w' => ∃ v, Big w' (Up ok w.heap.size) v (sgn s m * sgn t n) ∧ e = .returned v ∧ Below w.heap.size w w' := by
  refine veil fun R HP => ?_
  have HA := Lib.hid hA
  have HB := Lib.hid hB
  have EA := Lib.hid ha
  have EB := Lib.hid hb
  clear hA hB ha hb
  have X := Lib.hid (Bx3.new w s t A B la lb c d 59)
  have B0 := Lib.hid (ext_alloc3 w (.cells #[.bool s, .slice A la c] 59) (.cells #[.bool t, .slice B lb d] 59) (.cells #[.bool false, .slice none 0 0] 59))
  go_enter Try.func40, Try.ntmps40
  go_wp2_with fail
  generalize ((w.alloc (.cells #[.bool s, .slice A la c] 59)).alloc (.cells #[.bool t, .slice B lb d] 59)).alloc (.cells #[.bool false, .slice none 0 0] 59) = w0 at X B0 ⊢
  obtain ⟨a0, a1, b0, b1, -, -, -, -⟩ := X.out
  go_region_held3 (fun w' => w'.cell? ⟨w.heap.size, 0, none⟩ = some (.bool s) ∧ w'.cell? ⟨w.heap.size, 1, none⟩ = some (.slice A la c) ∧ w'.cell? ⟨w.heap.size + 1, 0, none⟩ = some (.bool t) ∧ w'.cell? ⟨w.heap.size + 1, 1, none⟩ = some (.slice B lb d))
    (first | exact ⟨X4.out.far.a0, X4.out.far.a1, X4.out.far.b0, X4.out.far.b1⟩ | exact ⟨X4.out.a0, X4.out.a1, X4.out.b0, X4.out.b1⟩ | exact ⟨X3.out.a0, X3.out.a1, X3.out.b0, X3.out.b1⟩ | exact ⟨X2.out.a0, X2.out.a1, X2.out.b0, X2.out.b1⟩ | exact ⟨X1.out.a0, X1.out.a1, X1.out.b0, X1.out.b1⟩ | exact ⟨a0, a1, b0, b1⟩)
    (first
      | (go_at_call_of 56 (Value.agg #[Value.bool s, Value.slice A la c]); refine (magnitude_dig ok s A _ c m _ EA.out hc (HA.out.ext (ext_drew B0.out))).mono ?_; rintro e w1 ⟨rfl, hb⟩; have X1 := Lib.hid (Bx3.ext (Bx3.drew X.out) hb); have B1 := Lib.hid (ext_trans (ext_drew B0.out) hb); clear hb)
      | (go_at_call_of 56 (Value.agg #[Value.bool t, Value.slice B lb d]); refine (magnitude_dig ok t B _ d n _ EB.out hd (HB.out.ext B1.out)).mono ?_; rintro e w2 ⟨rfl, hb⟩; have X2 := Lib.hid (Bx3.ext X1.out hb); have B2 := Lib.hid (ext_trans B1.out hb); clear hb)
      | (go_at_call 61; refine (times_any ok A B _ _ _ _ m n _ EA.out EB.out hla hlb (HA.out.ext B2.out) (HB.out.ext B2.out)).mono ?_; rintro e w3 ⟨A3, l3, hq, rfl, hb⟩; have Q3 := Lib.hid (And.intro hq.1 (hq.2.up2 B2.out)); have X3 := Lib.hid (Bx3.ext X2.out hb); have B3 := Lib.hid (ext_trans B2.out hb); clear hb hq)
      | (go_at_call 57; refine (signed_dig (Up ok w.heap.size) _ A3 _ _ (m * n) _ Q3.out.1 (Nat.le_refl _) Q3.out.2).mono ?_; rintro e w4 ⟨v, hv, rfl, hb⟩; obtain ⟨A4, l4, c4, rfl, hv⟩ := hv; have Q4 := Lib.hid hv; have X4 := Lib.hid (Bx3.ext X3.out hb); have B4 := Lib.hid (ext_trans B3.out hb); clear hb hv; obtain ⟨-, -, -, -, r0, r1, f0, f1⟩ := X4.out))
  go_wp2
  refine bodyPost_ret (v := .agg #[.bool (decide (sgn (!s == t) (m * n) < 0)), .slice A4 l4 c4]) (by simp [results, Try.results40, go_sem, r0, r1]) rfl (HP.out _ _ ⟨_, ?_, rfl, ?_⟩)
  · rw [show sgn s m * sgn t n = sgn (!s == t) (m * n) from sgn_mul s t m n]
    exact ⟨A4, l4, c4, rfl, Q4.out.1, Q4.out.2.1, Q4.out.2.2.1, Row.set_other (Row.set_other Q4.out.2.2.2 r0 (fun x h => by cases h) _) (set_apart (by simp) r1) (fun x h => by cases h) _⟩
  · exact ext_set (ext_set B4.out (by simp; omega) _) (by simp; omega) _

theorem sgn_add_same (s : Bool) (m n : Nat) : sgn s m + sgn s n = sgn s (m + n) := by cases s <;> simp [sgn] <;> omega
theorem sgn_add_ge (s t : Bool) (m n : Nat) (h : (s == t) = false) (hl : n ≤ m) : sgn s m + sgn t n = sgn s (m - n) := by
  cases s <;> cases t <;> simp [sgn] at h ⊢ <;> omega
theorem sgn_add_lt (s t : Bool) (m n : Nat) (h : (s == t) = false) (hl : m ≤ n) : sgn s m + sgn t n = sgn t (n - m) := by
  cases s <;> cases t <;> simp [sgn] at h ⊢ <;> omega
set_option maxHeartbeats 1000000 in
theorem Add_any (ok : Nat → Prop) (s t : Bool) (A B : Option Addr) (la lb c d m n : Nat) (w : World) (ha : la = (dig m).length) (hb : lb = (dig n).length) (hc : la ≤ c) (hd : lb ≤ d) (hla : la ≤ lim) (hlb : lb ≤ lim) (hA : Row Kd.u32 w ok A (dig m)) (hB : Row Kd.u32 w ok B (dig n)) :
    Calls Try.prog 39 #[.agg #[.bool s, .slice A la c], .agg #[.bool t, .slice B lb d]] w fun e w' => ∃ v, Big w' (Up ok w.heap.size) v (sgn s m + sgn t n) ∧ e = .returned v ∧ Below w.heap.size w w' := by
  refine veil fun R HP => ?_
  have HA := Lib.hid hA
  have HB := Lib.hid hB
  have EA := Lib.hid ha
  have EB := Lib.hid hb
  clear hA hB ha hb
  have X := Lib.hid (Bx3.new w s t A B la lb c d 59)
  have B0 := Lib.hid (ext_alloc3 w (.cells #[.bool s, .slice A la c] 59) (.cells #[.bool t, .slice B lb d] 59) (.cells #[.bool false, .slice none 0 0] 59))
  go_enter Try.func39, Try.ntmps39
  go_wp2_with fail
  generalize ((w.alloc (.cells #[.bool s, .slice A la c] 59)).alloc (.cells #[.bool t, .slice B lb d] 59)).alloc (.cells #[.bool false, .slice none 0 0] 59) = w0 at X B0 ⊢
  obtain ⟨a0, a1, b0, b1, -, -, -, -⟩ := X.out
  go_region_held3 (fun w' => w'.cell? ⟨w.heap.size, 0, none⟩ = some (.bool s) ∧ w'.cell? ⟨w.heap.size, 1, none⟩ = some (.slice A la c) ∧ w'.cell? ⟨w.heap.size + 1, 0, none⟩ = some (.bool t) ∧ w'.cell? ⟨w.heap.size + 1, 1, none⟩ = some (.slice B lb d))
    (first | exact ⟨X2.out.a0, X2.out.a1, X2.out.b0, X2.out.b1⟩ | exact ⟨X1.out.a0, X1.out.a1, X1.out.b0, X1.out.b1⟩ | exact ⟨a0, a1, b0, b1⟩)
    (first
      | (go_at_call_of 56 (Value.agg #[Value.bool s, Value.slice A la c]); refine (magnitude_dig ok s A _ c m _ EA.out hc (HA.out.ext (ext_drew B0.out))).mono ?_; rintro e w1 ⟨rfl, hb⟩; have X1 := Lib.hid (Bx3.ext (Bx3.drew X.out) hb); have B1 := Lib.hid (ext_trans (ext_drew B0.out) hb); clear hb)
      | (go_at_call_of 56 (Value.agg #[Value.bool t, Value.slice B lb d]); refine (magnitude_dig ok t B _ d n _ EB.out hd (HB.out.ext B1.out)).mono ?_; rintro e w2 ⟨rfl, hb⟩; have X2 := Lib.hid (Bx3.ext X1.out hb); have B2 := Lib.hid (ext_trans B1.out hb); clear hb))
  clear a0 a1 b0 b1
  obtain ⟨a0, a1, b0, b1, -, -, -, -⟩ := X2.out
  rcases Bool.eq_false_or_eq_true (s == t) with hst | hst
  · go_wp2_with fail
    go_region_held3 (fun w' => w'.cell? ⟨w.heap.size, 0, none⟩ = some (.bool s) ∧ w'.cell? ⟨w.heap.size, 1, none⟩ = some (.slice A la c) ∧ w'.cell? ⟨w.heap.size + 1, 0, none⟩ = some (.bool t) ∧ w'.cell? ⟨w.heap.size + 1, 1, none⟩ = some (.slice B lb d))
      (first | exact ⟨X4.out.far.a0, X4.out.far.a1, X4.out.far.b0, X4.out.far.b1⟩ | exact ⟨X4.out.a0, X4.out.a1, X4.out.b0, X4.out.b1⟩ | exact ⟨X3.out.a0, X3.out.a1, X3.out.b0, X3.out.b1⟩ | exact ⟨a0, a1, b0, b1⟩)
      (first
        | (go_at_call 59; refine (plus_any ok A B _ _ _ _ m n _ EA.out EB.out hla hlb (HA.out.ext (ext_drew B2.out)) (HB.out.ext (ext_drew B2.out))).mono ?_; rintro e w3 ⟨A3, l3, hq, rfl, hb⟩; have Q3 := Lib.hid (And.intro hq.1 (hq.2.up2 (ext_drew B2.out))); have X3 := Lib.hid (Bx3.ext (Bx3.drew X2.out) hb); have B3 := Lib.hid (ext_trans (ext_drew B2.out) hb); clear hb hq)
        | (go_at_call 57; refine (signed_dig (Up ok w.heap.size) _ A3 _ _ (m + n) _ Q3.out.1 (Nat.le_refl _) Q3.out.2).mono ?_; rintro e w4 ⟨v, hv, rfl, hb⟩; obtain ⟨A4, l4, c4, rfl, hv⟩ := hv; have Q4 := Lib.hid hv; have X4 := Lib.hid (Bx3.ext X3.out hb); have B4 := Lib.hid (ext_trans B3.out hb); clear hb hv; obtain ⟨-, -, -, -, r0, r1, f0, f1⟩ := X4.out))
    go_wp2
    refine bodyPost_ret (v := .agg #[.bool (decide (sgn s (m + n) < 0)), .slice A4 l4 c4]) (by simp [results, Try.results39, go_sem, r0, r1]) rfl (HP.out _ _ ⟨_, ?_, rfl, ?_⟩)
    · rw [show sgn s m + sgn t n = sgn s (m + n) from by rw [show t = s from by simpa using (eq_of_beq hst).symm, sgn_add_same]]
      exact ⟨A4, l4, c4, rfl, Q4.out.1, Q4.out.2.1, Q4.out.2.2.1, Row.set_other (Row.set_other Q4.out.2.2.2 r0 (fun x h => by cases h) _) (set_apart (by simp) r1) (fun x h => by cases h) _⟩
    · exact ext_set (ext_set B4.out (by simp; omega) _) (by simp; omega) _

  · have HS := Lib.hid hst
    go_wp2_with fail
    refine (compare_any ok A B _ _ m n _ _ _ EA.out EB.out (HA.out.ext B2.out) (HB.out.ext B2.out)).mono ?_
    rintro e w9 ⟨rfl, hw9⟩
    have B9 := Lib.hid (ext_trans B2.out (drawn_ext hw9))
    have X9 := Lib.hid (Bx3.ext X2.out (drawn_ext hw9))
    clear hw9 a0 a1 b0 b1
    obtain ⟨a0, a1, b0, b1, -, -, -, -⟩ := X9.out
    rcases Nat.lt_or_ge m n with hlt | hge
    · have h0 : ord (m : Int) (n : Int) < 0 := by rw [ord_lt (by omega)]; omega
      have HL := Lib.hid hlt
      clear hlt
      go_wp2_with fail
      go_region_held3 (fun w' => w'.cell? ⟨w.heap.size, 0, none⟩ = some (.bool s) ∧ w'.cell? ⟨w.heap.size, 1, none⟩ = some (.slice A la c) ∧ w'.cell? ⟨w.heap.size + 1, 0, none⟩ = some (.bool t) ∧ w'.cell? ⟨w.heap.size + 1, 1, none⟩ = some (.slice B lb d))
        (first | exact ⟨X4.out.far.a0, X4.out.far.a1, X4.out.far.b0, X4.out.far.b1⟩ | exact ⟨X4.out.a0, X4.out.a1, X4.out.b0, X4.out.b1⟩ | exact ⟨X3.out.a0, X3.out.a1, X3.out.b0, X3.out.b1⟩ | exact ⟨a0, a1, b0, b1⟩)
        (first
          | (go_at_call 60; refine (minus_any ok B A _ _ _ _ n m _ (Nat.le_of_lt HL.out) EB.out EA.out hlb (HB.out.ext (ext_drew B9.out)) (HA.out.ext (ext_drew B9.out))).mono ?_; rintro e w3 ⟨A3, l3, hq, rfl, hb⟩; have Q3 := Lib.hid (And.intro hq.1 (hq.2.up2 (ext_drew B9.out))); have X3 := Lib.hid (Bx3.ext (Bx3.drew X9.out) hb); have B3 := Lib.hid (ext_trans (ext_drew B9.out) hb); clear hb hq)
          | (go_at_call 57; refine (signed_dig (Up ok w.heap.size) _ A3 _ _ (n - m) _ Q3.out.1 (Nat.le_refl _) Q3.out.2).mono ?_; rintro e w4 ⟨v, hv, rfl, hb⟩; obtain ⟨A4, l4, c4, rfl, hv⟩ := hv; have Q4 := Lib.hid hv; have X4 := Lib.hid (Bx3.ext X3.out hb); have B4 := Lib.hid (ext_trans B3.out hb); clear hb hv; obtain ⟨-, -, -, -, r0, r1, f0, f1⟩ := X4.out))
      go_wp2
      refine bodyPost_ret (v := .agg #[.bool (decide (sgn t (n - m) < 0)), .slice A4 l4 c4]) (by simp [results, Try.results39, go_sem, r0, r1]) rfl (HP.out _ _ ⟨_, ?_, rfl, ?_⟩)
      · rw [show sgn s m + sgn t n = sgn t (n - m) from sgn_add_lt s t m n HS.out (Nat.le_of_lt HL.out)]
        exact ⟨A4, l4, c4, rfl, Q4.out.1, Q4.out.2.1, Q4.out.2.2.1, Row.set_other (Row.set_other Q4.out.2.2.2 r0 (fun x h => by cases h) _) (set_apart (by simp) r1) (fun x h => by cases h) _⟩
      · exact ext_set (ext_set B4.out (by simp; omega) _) (by simp; omega) _

    · have h0 : 0 ≤ ord (m : Int) (n : Int) := by unfold ord; split <;> (try split) <;> omega
      have HL := Lib.hid hge
      clear hge
      go_wp2_with fail
      go_region_held3 (fun w' => w'.cell? ⟨w.heap.size, 0, none⟩ = some (.bool s) ∧ w'.cell? ⟨w.heap.size, 1, none⟩ = some (.slice A la c) ∧ w'.cell? ⟨w.heap.size + 1, 0, none⟩ = some (.bool t) ∧ w'.cell? ⟨w.heap.size + 1, 1, none⟩ = some (.slice B lb d))
        (first | exact ⟨X4.out.far.a0, X4.out.far.a1, X4.out.far.b0, X4.out.far.b1⟩ | exact ⟨X4.out.a0, X4.out.a1, X4.out.b0, X4.out.b1⟩ | exact ⟨X3.out.a0, X3.out.a1, X3.out.b0, X3.out.b1⟩ | exact ⟨a0, a1, b0, b1⟩)
        (first
          | (go_at_call 60; refine (minus_any ok A B _ _ _ _ m n _ HL.out EA.out EB.out hla (HA.out.ext (ext_drew B9.out)) (HB.out.ext (ext_drew B9.out))).mono ?_; rintro e w3 ⟨A3, l3, hq, rfl, hb⟩; have Q3 := Lib.hid (And.intro hq.1 (hq.2.up2 (ext_drew B9.out))); have X3 := Lib.hid (Bx3.ext (Bx3.drew X9.out) hb); have B3 := Lib.hid (ext_trans (ext_drew B9.out) hb); clear hb hq)
          | (go_at_call 57; refine (signed_dig (Up ok w.heap.size) _ A3 _ _ (m - n) _ Q3.out.1 (Nat.le_refl _) Q3.out.2).mono ?_; rintro e w4 ⟨v, hv, rfl, hb⟩; obtain ⟨A4, l4, c4, rfl, hv⟩ := hv; have Q4 := Lib.hid hv; have X4 := Lib.hid (Bx3.ext X3.out hb); have B4 := Lib.hid (ext_trans B3.out hb); clear hb hv; obtain ⟨-, -, -, -, r0, r1, f0, f1⟩ := X4.out))
      go_wp2
      refine bodyPost_ret (v := .agg #[.bool (decide (sgn s (m - n) < 0)), .slice A4 l4 c4]) (by simp [results, Try.results39, go_sem, r0, r1]) rfl (HP.out _ _ ⟨_, ?_, rfl, ?_⟩)
      · rw [show sgn s m + sgn t n = sgn s (m - n) from sgn_add_ge s t m n HS.out HL.out]
        exact ⟨A4, l4, c4, rfl, Q4.out.1, Q4.out.2.1, Q4.out.2.2.1, Row.set_other (Row.set_other Q4.out.2.2.2 r0 (fun x h => by cases h) _) (set_apart (by simp) r1) (fun x h => by cases h) _⟩
      · exact ext_set (ext_set B4.out (by simp; omega) _) (by simp; omega) _

end Go.Proofs.Ythibocafjkbeeaa
/-
  integer.Sub, Normalize, Neg, Small, Int64: what they return. Condition: the integers have fewer limbs than a given bound.
-/
namespace Go.Proofs.Ythibocafjkbeeaa
open Go.RowKit

theorem sgn_not (t : Bool) (n : Nat) : sgn (!t) n = -sgn t n := by cases t <;> simp [sgn]
set_option maxHeartbeats 1000000 in
theorem Sub_any (ok : Nat → Prop) (s t : Bool) (A B : Option Addr) (la lb c d m n : Nat) (w : World) (ha : la = (dig m).length) (hb : lb = (dig n).length) (hc : la ≤ c) (hd : lb ≤ d) (hla : la ≤ lim) (hlb : lb ≤ lim) (hA : Row Kd.u32 w ok A (dig m)) (hB : Row Kd.u32 w ok B (dig n)) :
    Calls Try.prog 68 #[.agg #[.bool s, .slice A la c], .agg #[.bool t, .slice B lb d]] w fun e w' => ∃ v, Big w' (Up ok w.heap.size) v (sgn s m - sgn t n) ∧ e = .returned v ∧ Below w.heap.size w w' := by
  refine veil fun R HP => ?_
  have HA := Lib.hid hA
  have HB := Lib.hid hB
  have EA := Lib.hid ha
  have EB := Lib.hid hb
  clear hA hB ha hb
  have X := Lib.hid (Bx3.new w s t A B la lb c d 59)
  have B0 := Lib.hid (ext_alloc3 w (.cells #[.bool s, .slice A la c] 59) (.cells #[.bool t, .slice B lb d] 59) (.cells #[.bool false, .slice none 0 0] 59))
  go_enter Try.func68, Try.ntmps68
  go_wp2_with fail
  generalize ((w.alloc (.cells #[.bool s, .slice A la c] 59)).alloc (.cells #[.bool t, .slice B lb d] 59)).alloc (.cells #[.bool false, .slice none 0 0] 59) = w0 at X B0 ⊢
  obtain ⟨a0, a1, b0, b1, -, -, -, -⟩ := X.out
  refine (Add_any ok s (!t) A B _ _ c d m n _ EA.out EB.out hc hd hla hlb (HA.out.ext B0.out) (HB.out.ext B0.out)).mono ?_
  rintro e w1 ⟨v, hv, rfl, hb⟩
  obtain ⟨A4, l4, c4, rfl, hv⟩ := hv
  have Q4 := Lib.hid hv
  have X4 := Lib.hid (Bx3.ext X.out hb)
  have U4 := Lib.hid (hv.2.2.2.up2 B0.out)
  have B4 := Lib.hid (ext_trans B0.out hb)
  clear hb hv a0 a1 b0 b1
  obtain ⟨-, -, -, -, r0, r1, f0, f1⟩ := X4.out
  go_wp2
  refine bodyPost_ret (v := .agg #[.bool (decide (sgn s m + sgn (!t) n < 0)), .slice A4 l4 c4]) (by simp [results, Try.results68, go_sem, r0, r1]) rfl (HP.out _ _ ⟨_, ?_, rfl, ?_⟩)
  · rw [show sgn s m - sgn t n = sgn s m + sgn (!t) n from by rw [sgn_not]; omega]
    exact ⟨A4, l4, c4, rfl, Q4.out.1, Q4.out.2.1, Q4.out.2.2.1, Row.set_other (Row.set_other U4.out r0 (fun x h => by cases h) _) (set_apart (by simp) r1) (fun x h => by cases h) _⟩
  · exact ext_set (ext_set B4.out (by simp; omega) _) (by simp; omega) _

theorem neg_wrap (x : Int) (h1 : -9223372036854775808 ≤ x) (h0 : x < 0) : IntKind.u64.wrap (-IntKind.u64.wrap x) = (x.natAbs : Int) := by
  rw [IntKind.wrap_u64, IntKind.wrap_u64]; omega
theorem val_two (a b : Nat) : val [a, b] = a + 4294967296 * b := by simp [val]
/-- A place for a result, and a slice of two limbs. -/
theorem two_new (w : World) (T : TypeId) (a b : Nat) (ha : a < 4294967296) (hb : b < 4294967296) :
    OwnL ((w.alloc (.cells #[.bool false, .slice none 0 0] T)).alloc (.cells #[.int .u32 (a : Int), .int .u32 (b : Int)] 99)) (w.heap.size + 1) [a, b] ∧
    Own ((w.alloc (.cells #[.bool false, .slice none 0 0] T)).alloc (.cells #[.int .u32 (a : Int), .int .u32 (b : Int)] 99)) w.heap.size T [.bool false, .slice none 0 0] := by
  constructor
  · have := Own.new (w.alloc (.cells #[.bool false, .slice none 0 0] T)) 99 #[.int .u32 (a : Int), .int .u32 (b : Int)]
    exact ⟨by simpa [limbs] using this, by simp; omega⟩
  · exact (Own.new w T #[.bool false, .slice none 0 0]).alloc _
set_option maxHeartbeats 1000000 in
theorem Small_any (ok : Nat → Prop) (x : Int) (w : World) (h1 : -9223372036854775808 ≤ x) (h2 : x ≤ 9223372036854775807) :
    Calls Try.prog 35 #[.int .i64 x] w fun e w' => ∃ v, Big w' (Up ok w.heap.size) v x ∧ e = .returned v ∧ Below w.heap.size w w' := by
  refine veil fun R HP => ?_
  obtain ⟨s, n, hs, hx, hn⟩ : ∃ (s : Bool) (n : Nat), decide (x < 0) = s ∧ x = sgn s n ∧ n ≤ 9223372036854775808 := ⟨decide (x < 0), x.natAbs, rfl, by unfold sgn; split <;> simp at * <;> omega, by omega⟩
  obtain ⟨O1, O2⟩ := two_new w 59 (n % 4294967296) (n / 4294967296) (by omega) (by omega)
  have E0 := Lib.hid (ext_alloc (ext_alloc (Below.refl w.heap.size w) (.cells #[.bool false, .slice none 0 0] 59)) (.cells #[.int .u32 ((n % 4294967296 : Nat) : Int), .int .u32 ((n / 4294967296 : Nat) : Int)] 99))
  have HO1 := Lib.hid O1
  have HO2 := Lib.hid O2
  have HS := Lib.hid hs
  have HX := Lib.hid hx
  clear O1 O2 hs hx
  have fin : ∀ w0 : World, w0 = (w.alloc (.cells #[.bool false, .slice none 0 0] 59)).alloc (.cells #[.int .u32 ((n % 4294967296 : Nat) : Int), .int .u32 ((n / 4294967296 : Nat) : Int)] 99) →
      Calls Try.prog 57 #[.bool s, .slice (some ⟨w.heap.size + 1, 0, none⟩) 2 2] w0 fun e w1 => ∃ A m c, (m = (dig x.natAbs).length ∧ m ≤ c ∧ c ≤ 9223372036854775807 ∧ Row Kd.u32 w1 (Up ok w.heap.size) A (dig x.natAbs)) ∧ Own w1 w.heap.size 59 [.bool false, .slice none 0 0] ∧ Below w.heap.size w w1 ∧ e = .returned (.agg #[.bool (decide (x < 0)), .slice A m c]) := by
    rintro w0 rfl
    refine (signed_any (Up ok w.heap.size) s _ 2 [n % 4294967296, n / 4294967296] _ (by simp) (HO1.out.row (by simp) (.inr (by omega)))).mono ?_
    rintro e w1 ⟨v, ⟨A, m, c, rfl, hv⟩, rfl, hb⟩
    have e1 : sgn s (val [n % 4294967296, n / 4294967296]) = x := by rw [HX.out, val_two]; congr 1; omega
    rw [e1] at hv ⊢
    exact ⟨A, m, c, hv, HO2.out.ext hb, ext_trans E0.out hb, rfl⟩
  have FIN := Lib.hid fin
  clear fin
  go_enter Try.func35, Try.ntmps35
  by_cases h0 : x < 0
  · obtain rfl : s = true := by rw [← HS.out]; simpa using h0
    have hn2 : (x.natAbs : Int) = n := by rw [HX.out, sgn_abs]
    have hw := neg_wrap x h1 h0
    rw [hn2] at hw
    have HW := Lib.hid hw
    clear hw hn2
    go_wp2_with fail
    rw [HW.out, show ((n : Int) % 4294967296) = ((n % 4294967296 : Nat) : Int) from by omega, show ((n : Int) / 4294967296 % 4294967296) = ((n / 4294967296 : Nat) : Int) from by omega]
    refine (FIN.out _ rfl).mono ?_
    rintro e w1 ⟨A4, l4, c4, hq, ho, hb, rfl⟩
    have Q4 := Lib.hid hq
    have B4 := Lib.hid hb
    have r0 := ho.cell 0
    have r1 := ho.cell 1
    have f0 := ho.free 0
    have f1 := ho.free 1
    clear hq hb ho h0
    go_wp2
    refine bodyPost_ret (v := .agg #[.bool (decide (x < 0)), .slice A4 l4 c4]) (by simp [results, Try.results35, go_sem, r0, r1]) rfl (HP.out _ _ ⟨_, ?_, rfl, ?_⟩)
    · exact ⟨A4, l4, c4, rfl, Q4.out.1, Q4.out.2.1, Q4.out.2.2.1, Row.set_other (Row.set_other Q4.out.2.2.2 r0 (fun x h => by cases h) _) (set_apart (by simp) r1) (fun x h => by cases h) _⟩
    · exact ext_set (ext_set B4.out (by simp) _) (by simp) _
  · obtain rfl : s = false := by rw [← HS.out]; simpa using h0
    have hn2 : x = (n : Int) := by rw [HX.out]; rfl
    have HN := Lib.hid hn2
    clear hn2
    go_wp2_with fail
    rw [show (x % 4294967296) = ((n % 4294967296 : Nat) : Int) from by rw [HN.out]; omega, show (x / 4294967296) = ((n / 4294967296 : Nat) : Int) from by rw [HN.out]; omega]
    refine (FIN.out _ rfl).mono ?_
    rintro e w1 ⟨A4, l4, c4, hq, ho, hb, rfl⟩
    have Q4 := Lib.hid hq
    have B4 := Lib.hid hb
    have r0 := ho.cell 0
    have r1 := ho.cell 1
    have f0 := ho.free 0
    have f1 := ho.free 1
    clear hq hb ho h0
    go_wp2
    refine bodyPost_ret (v := .agg #[.bool (decide (x < 0)), .slice A4 l4 c4]) (by simp [results, Try.results35, go_sem, r0, r1]) rfl (HP.out _ _ ⟨_, ?_, rfl, ?_⟩)
    · exact ⟨A4, l4, c4, rfl, Q4.out.1, Q4.out.2.1, Q4.out.2.2.1, Row.set_other (Row.set_other Q4.out.2.2.2 r0 (fun x h => by cases h) _) (set_apart (by simp) r1) (fun x h => by cases h) _⟩
    · exact ext_set (ext_set B4.out (by simp) _) (by simp) _
end Go.Proofs.Ythibocafjkbeeaa
