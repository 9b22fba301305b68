/-
  Words for reading memory: a kind of data, a row of such data behind an address, and how a reading lives on where the blocks that it meets are unchanged. No condition: plain definitions and theorems.
-/
import Derived.Test.YthibocafjkbeeaaProg
import Derived.Below
import Derived.Lib.Hide
import Derived.Deep.Draws
import Derived.Deep.AppendLies
import Derived.Maps.AppendAt
import Derived.OwnWalk
import Derived.Laws.MakeOwn
import Derived.Laws.OwnMore
import Derived.WalkKit
import Derived.KernelRfl
import Derived.RowKit3
import Derived.Deep.LoopGhost
import Derived.Deep.QuietTactic
import Derived.BigQuiet
import Derived.WideLaws
import Derived.Deep.DeepCutAuto
import Derived.Deep.CutBlock
import Derived.Deep.RegionHeld3
import Derived.Laws.Rows
import Derived.Laws.IdiomCopy
import Derived.Laws.BitsLemmas
set_option linter.unusedVariables false
set_option linter.unusedSimpArgs false
namespace Go.Proofs.Ythibocafjkbeeaa
open Go.RowKit

/-- Entry j of a list, a default behind its end. -/
def nth {α : Type} [Inhabited α] (xs : List α) (j : Nat) : α := xs.getD j default
theorem nth_eq {α : Type} [Inhabited α] (xs : List α) (j : Nat) (h : j < xs.length) : nth xs j = xs[j] := by
  simp [nth, List.getD_eq_getElem?_getD, List.getElem?_eq_getElem h]
theorem nth_get? {α : Type} [Inhabited α] (xs : List α) (j : Nat) (h : j < xs.length) : xs[j]? = some (nth xs j) := by
  rw [nth_eq xs j h, List.getElem?_eq_getElem h]

/-- The postcondition behind a letter, so that the walk does not look into it. -/
theorem veil {P : Program} {f : FuncId} {args : Array Value} {w : World} {Q : Ending → World → Prop} (h : ∀ R : Ending → World → Prop, Hid (∀ e w', Q e w' → R e w') → Calls P f args w R) : Calls P f args w Q :=
  h Q fun _ _ h => h
/-- The blocks below B. -/
def Lo (B : Nat) : Nat → Prop := fun b => b < B
/-- The blocks of ok, and those from B on. -/
def Up (ok : Nat → Prop) (B : Nat) : Nat → Prop := fun b => ok b ∨ B ≤ b
def All : Nat → Prop := fun _ => True
/-- A kind of data: how many cells, and when cells read as a datum in a world, with all blocks that the reading meets in ok. -/
structure Kd (α : Type) where
  size : Nat
  K : World → (Nat → Prop) → α → List Value → Prop
  len : ∀ {w : World} {ok : Nat → Prop} {x : α} {cs : List Value}, K w ok x cs → cs.length = size
  keep : ∀ {w w' : World} {ok : Nat → Prop} {x : α} {cs : List Value}, K w ok x cs → (∀ b, ok b → b < w.heap.size → w'.heap[b]? = w.heap[b]?) → K w' ok x cs
  weak : ∀ {w : World} {ok ok' : Nat → Prop} {x : α} {cs : List Value}, K w ok x cs → (∀ b, ok b → b < w.heap.size → ok' b) → K w ok' x cs
  one : ∀ {w : World} {ok : Nat → Prop} {x : α} {cs : List Value}, K w ok x cs → ∀ u ∈ cs, u.oneCell' = true

def Kd.i64 : Kd Int where
  size := 1
  K _ _ x cs := cs = [.int .i64 x] ∧ -9223372036854775808 ≤ x ∧ x ≤ 9223372036854775807
  len h := by rw [h.1]; rfl
  keep h _ := h
  weak h _ := h
  one h := by first | (rw [h.1]; simp [Value.oneCell']) | (rw [h]; simp [Value.oneCell'])
def Kd.i8 : Kd Int where
  size := 1
  K _ _ x cs := cs = [.int .i8 x] ∧ -128 ≤ x ∧ x ≤ 127
  len h := by rw [h.1]; rfl
  keep h _ := h
  weak h _ := h
  one h := by first | (rw [h.1]; simp [Value.oneCell']) | (rw [h]; simp [Value.oneCell'])
def Kd.u32 : Kd Nat where
  size := 1
  K _ _ x cs := cs = [.int .u32 (x : Int)] ∧ x < 4294967296
  len h := by rw [h.1]; rfl
  keep h _ := h
  weak h _ := h
  one h := by first | (rw [h.1]; simp [Value.oneCell']) | (rw [h]; simp [Value.oneCell'])
def Kd.bool : Kd Bool where
  size := 1
  K _ _ x cs := cs = [.bool x]
  len h := by rw [h]; rfl
  keep h _ := h
  weak h _ := h
  one h := by first | (rw [h.1]; simp [Value.oneCell']) | (rw [h]; simp [Value.oneCell'])

/-- A row of data behind an address that may be none. -/
def Row {α : Type} (k : Kd α) (w : World) (ok : Nat → Prop) (A : Option Addr) (xs : List α) : Prop :=
  xs.length ≤ 9223372036854775807 ∧ (0 < xs.length → ∃ ad, A = some ad ∧ ok ad.block ∧ ad.block < w.heap.size ∧
    ∀ (i : Nat) (hi : i < xs.length), ∃ cs, k.K w ok xs[i] cs ∧ ∀ j u, cs[j]? = some u → w.cell? (ad.add (i * k.size + j)) = some u)

theorem add_block (a : Addr) (n : Nat) : (a.add n).block = a.block := by unfold Addr.add; split <;> rfl
theorem cell_keep {w w' : World} {a : Addr} (n : Nat) (h : w'.heap[a.block]? = w.heap[a.block]?) : w'.cell? (a.add n) = w.cell? (a.add n) :=
  World.cell?_of_block (by rw [add_block]; exact h)

section
variable {α : Type} {k : Kd α} {w w' : World} {ok ok' : Nat → Prop} {A : Option Addr} {xs : List α}
theorem Row.keep (h : Row k w ok A xs) (hk : ∀ b, ok b → b < w.heap.size → w'.heap[b]? = w.heap[b]?) : Row k w' ok A xs := by
  refine ⟨h.1, fun hp => ?_⟩
  obtain ⟨ad, e, ho, hb, hc⟩ := h.2 hp
  have hbl := hk _ ho hb
  refine ⟨ad, e, ho, ?_, fun i hi => ?_⟩
  · rcases Nat.lt_or_ge ad.block w'.heap.size with g | g
    · exact g
    · rw [Array.getElem?_eq_none g, Array.getElem?_eq_getElem hb] at hbl
      cases hbl
  · obtain ⟨cs, hK, hcs⟩ := hc i hi
    exact ⟨cs, k.keep hK hk, fun j u hu => (cell_keep _ hbl).trans (hcs j u hu)⟩
theorem Row.weak (h : Row k w ok A xs) (hk : ∀ b, ok b → b < w.heap.size → ok' b) : Row k w ok' A xs := by
  refine ⟨h.1, fun hp => ?_⟩
  obtain ⟨ad, e, ho, hb, hc⟩ := h.2 hp
  refine ⟨ad, e, hk _ ho hb, hb, fun i hi => ?_⟩
  obtain ⟨cs, hK, hcs⟩ := hc i hi
  exact ⟨cs, k.weak hK hk, hcs⟩
theorem Row.nil (w : World) (ok : Nat → Prop) (A : Option Addr) : Row k w ok A ([] : List α) := ⟨by simp, fun h => absurd h (by simp)⟩
theorem Row.lo (h : Row k w ok A xs) : Row k w (Lo w.heap.size) A xs := h.weak fun _ _ hb => hb
theorem Row.below {B : Nat} (h : Row k w (Lo B) A xs) (hb : Below B w w') : Row k w' (Lo B) A xs := h.keep fun b ho _ => hb.block b ho
/-- Element i: its address and its cells. -/
theorem Row.at_ [Inhabited α] (h : Row k w ok A xs) {i : Nat} (hi : i < xs.length) : ∃ ad cs, A = some ad ∧ ok ad.block ∧ ad.block < w.heap.size ∧ k.K w ok (nth xs i) cs ∧ ∀ j u, cs[j]? = some u → w.cell? (ad.add (i * k.size + j)) = some u := by
  obtain ⟨ad, e, ho, hb, hc⟩ := h.2 (by omega)
  obtain ⟨cs, hK, hcs⟩ := hc i hi
  exact ⟨ad, cs, e, ho, hb, by rw [nth_eq xs i hi]; exact hK, hcs⟩
end

/-! ### Worlds in which all that was there is as it was -/
theorem ext_alloc {w0 w : World} (h : Below w0.heap.size w0 w) (o : Obj) : Below w0.heap.size w0 (w.alloc o) := h.alloc h.size o
theorem ext_drewN {B : Nat} {w0 w : World} (h : Below B w0 w) (n : Nat) : Below B w0 (w.drewN n) := ⟨h.os, h.tape, h.output, h.size, h.block⟩
theorem ext_drew {B : Nat} {w0 w : World} (h : Below B w0 w) : Below B w0 w.drew := h.drew
theorem ext_trans {w0 w1 w2 : World} (h : Below w0.heap.size w0 w1) (k : Below w1.heap.size w1 w2) : Below w0.heap.size w0 w2 :=
  h.trans (k.mono h.size)
theorem ext_set {w0 w : World} (h : Below w0.heap.size w0 w) {p : Addr} (hp : w0.heap.size ≤ p.block) (u : Value) : Below w0.heap.size w0 (w.setCell p u) := h.setCell hp u
theorem ext_grown {w0 w w' : World} {row : Option Nat} (h : Below w0.heap.size w0 w) (hg : w.grownBy w' row) (hr : ∀ k, row = some k → w0.heap.size ≤ k) : Below w0.heap.size w0 w' := h.grown hg h.size hr
theorem bcell {B : Nat} {w w1 : World} (hb : Below B w w1) : (∀ b o, b < B → w1.cell? ⟨b, o, none⟩ = w.cell? ⟨b, o, none⟩) ∧ ∀ b o, b < B → w1.frozen? ⟨b, o, none⟩ = w.frozen? ⟨b, o, none⟩ :=
  ⟨fun b o h => hb.cell (p := ⟨b, o, none⟩) h, fun b o h => hb.frozen (p := ⟨b, o, none⟩) h⟩
theorem kept {w w1 : World} (hb : Below w.heap.size w w1) {p : Addr} {u : Value} (c : w.cell? p = some u) : w1.cell? p = some u := (hb.cell (World.block_lt_of_cell? w p c)).trans c
theorem Row.ext {α : Type} {k : Kd α} {w w' : World} {ok : Nat → Prop} {A : Option Addr} {xs : List α} (h : Row k w ok A xs) (hb : Below w.heap.size w w') : Row k w' ok A xs := h.keep fun b _ hl => hb.block b hl
theorem Row.alloc {α : Type} {k : Kd α} {w : World} {ok : Nat → Prop} {A : Option Addr} {xs : List α} (h : Row k w ok A xs) (o : Obj) : Row k (w.alloc o) ok A xs := h.ext (ext_alloc (Below.refl _ _) o)
theorem Row.all {α : Type} {k : Kd α} {w : World} {ok : Nat → Prop} {A : Option Addr} {xs : List α} (h : Row k w ok A xs) : Row k w All A xs := h.weak fun _ _ _ => trivial
theorem Row.up {α : Type} {k : Kd α} {w : World} {ok : Nat → Prop} {A : Option Addr} {xs : List α} (h : Row k w ok A xs) (B : Nat) : Row k w (Up ok B) A xs := h.weak fun _ h _ => .inl h

/-- The world is the old one, some orders having been drawn. -/
structure Drawn (w w' : World) : Prop where
  out : ∃ k, w' = w.drewN k
theorem drawn_refl (w : World) : Drawn w w := ⟨⟨0, rfl⟩⟩
theorem drawn_step {w w' : World} (h : Drawn w w') (n : Nat) : Drawn w (w'.drewN n) := by
  obtain ⟨⟨k, rfl⟩⟩ := h
  exact ⟨⟨k + n, World.drewN_drewN ..⟩⟩
theorem drawn_ext {w w' : World} (h : Drawn w w') : Below w.heap.size w w' := by
  obtain ⟨⟨k, rfl⟩⟩ := h
  exact ext_drewN (Below.refl _ _) k

/-- A slice of data of kind k. -/
def Kd.slice {α : Type} (k : Kd α) : Kd (List α) where
  size := 1
  K w ok xs cs := ∃ A c, cs = [.slice A xs.length c] ∧ xs.length ≤ c ∧ c ≤ 9223372036854775807 ∧ Row k w ok A xs
  len := by rintro w ok x cs ⟨A, c, rfl, _⟩; rfl
  keep := by
    rintro w w' ok x cs ⟨A, c, e, h1, h2, h⟩ hk
    exact ⟨A, c, e, h1, h2, h.keep hk⟩
  weak := by
    rintro w ok ok' x cs ⟨A, c, e, h1, h2, h⟩ hk
    exact ⟨A, c, e, h1, h2, h.weak hk⟩
  one := by rintro w ok x cs ⟨A, c, rfl, _⟩; simp [Value.oneCell']

/-- Two kinds side by side: a struct of two fields. -/
def Kd.pair {α β : Type} (k : Kd α) (l : Kd β) : Kd (α × β) where
  size := k.size + l.size
  K w ok x cs := ∃ c d, cs = c ++ d ∧ k.K w ok x.1 c ∧ l.K w ok x.2 d
  len := by rintro w ok x cs ⟨c, d, rfl, h, g⟩; rw [List.length_append, k.len h, l.len g]
  keep := by
    rintro w w' ok x cs ⟨c, d, e, h, g⟩ hk
    exact ⟨c, d, e, k.keep h hk, l.keep g hk⟩
  weak := by
    rintro w ok ok' x cs ⟨c, d, e, h, g⟩ hk
    exact ⟨c, d, e, k.weak h hk, l.weak g hk⟩
  one := by
    rintro w ok x cs ⟨c, d, rfl, h, g⟩ u hu
    rcases List.mem_append.1 hu with hu | hu
    · exact k.one h u hu
    · exact l.one g u hu

/-- Whatever is told of other data. -/
def Kd.of {α β : Type} (k : Kd α) (f : β → α) : Kd β where
  size := k.size
  K w ok x cs := k.K w ok (f x) cs
  len h := k.len h
  keep h hk := k.keep h hk
  weak h hk := k.weak h hk
  one h := k.one h

/-! ### Limbs of 32 bits -/
def trimL (xs : List Nat) : List Nat := (xs.reverse.dropWhile (· == 0)).reverse
/-- The canonical limbs of a natural number. -/
def dig (n : Nat) : List Nat := if n = 0 then [] else n % 4294967296 :: dig (n / 4294967296)
decreasing_by omega
/-- What limbs denote. -/
def val : List Nat → Nat
  | [] => 0
  | x :: r => x + 4294967296 * val r
theorem dig_zero : dig 0 = [] := by rw [dig]; simp
theorem dig_pos (n : Nat) (h : n ≠ 0) : dig n = n % 4294967296 :: dig (n / 4294967296) := by rw [dig]; simp [h]
theorem val_dig (n : Nat) : val (dig n) = n := by
  induction n using Nat.strongRecOn with
  | ind n ih =>
    by_cases h : n = 0
    · subst h; rw [dig_zero]; rfl
    · rw [dig_pos n h, val, ih _ (by omega)]
      omega
theorem dig_lt (n : Nat) : ∀ x ∈ dig n, x < 4294967296 := by
  induction n using Nat.strongRecOn with
  | ind n ih =>
    by_cases h : n = 0
    · subst h; rw [dig_zero]; simp
    · rw [dig_pos n h]
      intro x hx
      rcases List.mem_cons.1 hx with rfl | hx
      · omega
      · exact ih _ (by omega) x hx
theorem dig_last (n : Nat) : ∀ x, (dig n).getLast? = some x → x ≠ 0 := by
  induction n using Nat.strongRecOn with
  | ind n ih =>
    intro x hx
    by_cases h : n = 0
    · subst h; rw [dig_zero] at hx; cases hx
    · rw [dig_pos n h, List.getLast?_cons] at hx
      by_cases h2 : n / 4294967296 = 0
      · rw [h2, dig_zero] at hx
        simp at hx
        omega
      · rw [dig_pos _ h2, List.getLast?_cons] at hx
        refine ih (n / 4294967296) (by omega) x ?_
        rw [dig_pos _ h2, List.getLast?_cons]
        simpa using hx
/-- An integer: its sign and its limbs. -/
def Kd.raw : Kd (Bool × List Nat) := Kd.pair Kd.bool (Kd.slice Kd.u32)
def Kd.big : Kd Int := Kd.raw.of fun n => (decide (n < 0), dig n.natAbs)
end Go.Proofs.Ythibocafjkbeeaa
/-
  integer.trim, integer.magnitude and integer.signed: what they return. No condition but that their arguments can be read.
-/
namespace Go.Proofs.Ythibocafjkbeeaa
open Go.RowKit

theorem val_zeros : ∀ xs : List Nat, (∀ j, j < xs.length → nth xs j = 0) → val xs = 0
  | [], _ => rfl
  | x :: r, h => by
    have h0 : nth (x :: r) 0 = 0 := h 0 (by simp)
    have hr := val_zeros r fun j hj => h (j + 1) (by simpa using hj)
    simp [nth] at h0
    simp [val, h0, hr]
theorem val_ne_zero : ∀ (xs : List Nat) (j : Nat), nth xs j ≠ 0 → val xs ≠ 0
  | [], j, h => absurd (by simp [nth]) h
  | x :: r, 0, h => by simp [nth] at h; simp [val]; omega
  | x :: r, j + 1, h => by
    have := val_ne_zero r j (by simpa [nth] using h)
    simp [val]; omega
theorem dig_take : ∀ (xs : List Nat) (m : Nat), m ≤ xs.length → (∀ x ∈ xs, x < 4294967296) → (∀ j, m ≤ j → j < xs.length → nth xs j = 0) → (0 < m → nth xs (m - 1) ≠ 0) → dig (val xs) = xs.take m
  | xs, 0, _, _, h, _ => by rw [val_zeros xs (fun j hj => h j (by omega) hj), dig_zero]; rfl
  | [], m + 1, hm, _, _, _ => by simp at hm
  | x :: r, m + 1, hm, hx, h, hl => by
    have hne : val (x :: r) ≠ 0 := val_ne_zero _ _ (hl (by omega))
    have hx0 : x < 4294967296 := hx x (by simp)
    rw [dig_pos _ hne]
    simp only [val, List.take_succ_cons]
    rw [show (x + 4294967296 * val r) % 4294967296 = x by omega, show (x + 4294967296 * val r) / 4294967296 = val r by omega]
    rw [dig_take r m (by simpa using hm) (fun y hy => hx y (by simp [hy])) (fun j h1 h2 => by have := h (j + 1) (by omega) (by simpa using h2); simpa [nth] using this) (fun hp => by
      have := hl (by omega)
      rw [show m + 1 - 1 = (m - 1) + 1 by omega] at this
      simpa [nth] using this)]

section
variable {w w' : World} {ok ok' : Nat → Prop} {A : Option Addr} {xs : List Nat}
theorem Row.limb (h : Row Kd.u32 w ok A xs) {i : Nat} (hi : i < xs.length) : ∃ ad, A = some ad ∧ w.cell? (ad.add i) = some (.int .u32 ((nth xs i : Nat) : Int)) ∧ nth xs i < 4294967296 := by
  obtain ⟨ad, cs, e, _, _, ⟨rfl, hlt⟩, hc⟩ := h.at_ hi
  refine ⟨ad, e, ?_, hlt⟩
  have := hc 0 _ rfl
  simpa [Kd.u32] using this
theorem Row.limb_lt (h : Row Kd.u32 w ok A xs) (i : Nat) : nth xs i < 4294967296 := by
  rcases Nat.lt_or_ge i xs.length with hi | hi
  · obtain ⟨_, _, _, hl⟩ := h.limb hi; exact hl
  · simp [nth, List.getD_eq_getElem?_getD, List.getElem?_eq_none hi]
theorem Row.limbs_lt (h : Row Kd.u32 w ok A xs) : ∀ x ∈ xs, x < 4294967296 := by
  intro x hx
  obtain ⟨i, hi, rfl⟩ := List.mem_iff_getElem.1 hx
  rw [← nth_eq xs i hi]
  exact h.limb_lt i
theorem Row.take {α : Type} {k : Kd α} {xs : List α} (h : Row k w ok A xs) (m : Nat) : Row k w ok A (xs.take m) := by
  refine ⟨by have := h.1; rw [List.length_take]; omega, fun hp => ?_⟩
  obtain ⟨ad, e, ho, hb, hc⟩ := h.2 (by rw [List.length_take] at hp; omega)
  refine ⟨ad, e, ho, hb, fun i hi => ?_⟩
  rw [List.length_take] at hi
  obtain ⟨cs, hK, hcs⟩ := hc i (by omega)
  exact ⟨cs, by rw [List.getElem_take]; exact hK, hcs⟩
end

set_option maxHeartbeats 400000 in
theorem trim_any (ok : Nat → Prop) (A : Option Addr) (c : Nat) (xs : List Nat) (w : World) (hn : xs.length ≤ c) (h : Row Kd.u32 w ok A xs) :
    Calls Try.prog 70 #[.slice A xs.length c] w fun e w' => ∃ ys, ys = dig (val xs) ∧ e = .returned (.slice A ys.length ys.length) ∧ ys.length ≤ xs.length ∧ Row Kd.u32 w ok A ys ∧ w = w' := by
  refine veil fun R HP => ?_
  have hm := h.1
  have HR := Lib.hid h
  clear h
  obtain ⟨n, hn0⟩ : ∃ n, n = xs.length := ⟨_, rfl⟩
  rw [← hn0] at hn hm ⊢
  have HN := Lib.hid hn0
  clear hn0
  go_enter Try.func70, Try.ntmps70
  go_wp2
  go_loop [3] (fun i => ∃ k : Nat, k ≤ n ∧ i = .int .i64 k ∧ Hid (∀ j, k ≤ j → j < xs.length → nth xs j = 0)) (fun i => (intOf i).toNat)
  case atStart => exact ⟨n, Nat.le_refl _, rfl, fun j h1 h2 => by have := HN.out; omega⟩
  case round =>
    obtain ⟨k, hk, rfl, HZ⟩ := hrel
    have D := Lib.hid (show (0 < k → nth xs (k - 1) ≠ 0) → R (.returned (.slice A k k)) w from fun hl => HP.out _ _ (by
      have hkl : k ≤ xs.length := by have := HN.out; omega
      have e : (xs.take k).length = k := by rw [List.length_take]; omega
      exact ⟨xs.take k, (dig_take xs k hkl HR.out.limbs_lt HZ.out hl).symm, by rw [e], by omega, HR.out.take k, rfl⟩))
    by_cases hlt : 0 < k
    · have hk1 : k - 1 < xs.length := by have := HN.out; omega
      obtain ⟨ad, rfl, hcell, hb⟩ := HR.out.limb hk1
      by_cases hz : nth xs (k - 1) = 0
      · have hzb : (((nth xs (k - 1) : Nat) : Int) == 0) = true := by rw [hz]; rfl
        have HZ' : Hid (∀ j, k - 1 ≤ j → j < xs.length → nth xs j = 0) := fun j h1 h2 => by
          by_cases e : j = k - 1
          · subst e; exact hz
          · exact HZ.out j (by omega) h2
        clear hz HZ
        go_wp2
        go_round
        case rel => exact ⟨k - 1, by omega, by rw [Int.ofNat_sub (by omega)]; rfl, HZ'⟩
        case measure => simp [intOf]; omega
      · have hzb : (((nth xs (k - 1) : Nat) : Int) == 0) = false := by rw [beq_eq_false_iff_ne]; omega
        have D' := Lib.hid (D.out fun _ => hz)
        clear hz
        go_wp2
        exact D'.out
    · have D' := Lib.hid (D.out fun h => absurd h hlt)
      go_wp2
      exact D'.out

theorem trim_calls (ok : Nat → Prop) (A : Option Addr) (n c : Nat) (xs : List Nat) (w : World) (hl : n = xs.length) (hn : n ≤ c) (h : Row Kd.u32 w ok A xs) :
    Calls Try.prog 70 #[.slice A n c] w fun e w' => ∃ m : Nat, (m ≤ n ∧ m = (dig (val xs)).length ∧ Row Kd.u32 w ok A (dig (val xs))) ∧ e = .returned (.slice A m m) ∧ w = w' := by
  subst hl
  refine (trim_any ok A c xs w hn h).mono ?_
  rintro e w' ⟨ys, hy, he, hl, hr, hw⟩
  subst hy
  exact ⟨_, ⟨hl, rfl, hr⟩, he, hw⟩

/-- A value that is an Int with a sign and the canonical limbs of a number. -/
def Bg (w : World) (ok : Nat → Prop) (v : Value) (s : Bool) (n : Nat) : Prop :=
  ∃ A m c, v = .agg #[.bool s, .slice A m c] ∧ m = (dig n).length ∧ m ≤ c ∧ c ≤ 9223372036854775807 ∧ Row Kd.u32 w ok A (dig n)
/-- A value that is the canonical Int of an integer. -/
def Big (w : World) (ok : Nat → Prop) (v : Value) (z : Int) : Prop := Bg w ok v (decide (z < 0)) z.natAbs

theorem magnitude_any (ok : Nat → Prop) (b : Bool) (A : Option Addr) (c : Nat) (xs : List Nat) (w : World) (hn : xs.length ≤ c) (h : Row Kd.u32 w ok A xs) :
    Calls Try.prog 56 #[.agg #[.bool b, .slice A xs.length c]] w fun e w' => ∃ m : Nat, (m ≤ xs.length ∧ m = (dig (val xs)).length ∧ Row Kd.u32 w' ok A (dig (val xs))) ∧ e = .returned (.slice A m m) ∧ Below w.heap.size w w' := by
  refine veil fun R HP => ?_
  have HR := Lib.hid h
  clear h
  go_enter Try.func56, Try.ntmps56
  go_wp2_with (go_at_call 70; refine (trim_calls ok A _ c xs _ rfl hn (HR.out.alloc _)).mono ?_; rintro e w' ⟨m, hq, rfl, rfl⟩; have HQ := Lib.hid hq; clear hq)
  exact HP.out _ _ ⟨m, HQ.out, rfl, ext_alloc (Below.refl _ _) _⟩

/-- The limbs of a canonical Int are its own. -/
theorem magnitude_dig (ok : Nat → Prop) (b : Bool) (A : Option Addr) (m c n : Nat) (w : World) (hm : m = (dig n).length) (hn : m ≤ c) (h : Row Kd.u32 w ok A (dig n)) :
    Calls Try.prog 56 #[.agg #[.bool b, .slice A m c]] w fun e w' => e = .returned (.slice A m m) ∧ Below w.heap.size w w' := by
  subst hm
  refine (magnitude_any ok b A c (dig n) w hn h).mono ?_
  rintro e w' ⟨k, ⟨_, hk, _⟩, rfl, hb⟩
  rw [val_dig] at hk
  subst hk
  exact ⟨rfl, hb⟩

/-- An integer of a sign and a number. -/
def sgn (s : Bool) (n : Nat) : Int := if s then -(n : Int) else n
theorem sgn_abs (s : Bool) (n : Nat) : (sgn s n).natAbs = n := by cases s <;> simp [sgn]
theorem sgn_zero (s : Bool) : sgn s 0 = 0 := by cases s <;> simp [sgn]
theorem sgn_neg (s : Bool) (n : Nat) (h : n ≠ 0) : decide (sgn s n < 0) = s := by cases s <;> simp [sgn] <;> omega

theorem Row.trimmed {w : World} {ok : Nat → Prop} {A : Option Addr} {xs : List Nat} (h : Row Kd.u32 w ok A xs) : Row Kd.u32 w ok A (dig (val xs)) := by
  obtain ⟨m, h1, h2, h3⟩ : ∃ m, m ≤ xs.length ∧ (∀ j, m ≤ j → j < xs.length → nth xs j = 0) ∧ (0 < m → nth xs (m - 1) ≠ 0) := by
    have key : ∀ d m, m + d = xs.length → (∃ i, m ≤ i ∧ i ≤ xs.length ∧ ∀ j, i ≤ j → j < xs.length → nth xs j = 0) → ∃ m, m ≤ xs.length ∧ (∀ j, m ≤ j → j < xs.length → nth xs j = 0) ∧ (0 < m → nth xs (m - 1) ≠ 0) := by
      intro d m _ _
      have : ∀ k, k ≤ xs.length → (∀ j, k ≤ j → j < xs.length → nth xs j = 0) → ∃ m, m ≤ xs.length ∧ (∀ j, m ≤ j → j < xs.length → nth xs j = 0) ∧ (0 < m → nth xs (m - 1) ≠ 0) := by
        intro k
        induction k with
        | zero => intro h1 h2; exact ⟨0, h1, h2, fun h => absurd h (by omega)⟩
        | succ k ih =>
          intro h1 h2
          by_cases hz : nth xs k = 0
          · exact ih (by omega) fun j h3 h4 => by
              by_cases e : j = k
              · subst e; exact hz
              · exact h2 j (by omega) h4
          · exact ⟨k + 1, h1, h2, fun _ => hz⟩
      exact this xs.length (Nat.le_refl _) fun j h1 h2 => by omega
    exact key 0 xs.length rfl ⟨xs.length, by omega, by omega, fun j h1 h2 => by omega⟩
  rw [dig_take xs m h1 h.limbs_lt h2 h3]
  exact h.take m
theorem signed_any (ok : Nat → Prop) (s : Bool) (A : Option Addr) (c : Nat) (xs : List Nat) (w : World) (hn : xs.length ≤ c) (h : Row Kd.u32 w ok A xs) :
    Calls Try.prog 57 #[.bool s, .slice A xs.length c] w fun e w' => ∃ v, Big w' ok v (sgn s (val xs)) ∧ e = .returned v ∧ Below w.heap.size w w' := by
  refine veil fun R HP => ?_
  have hm := h.1
  have HR := Lib.hid h
  clear h
  go_enter Try.func57, Try.ntmps57
  go_wp2_with (go_at_call 70; refine (trim_calls ok A _ c xs _ rfl hn (HR.out.alloc _)).mono ?_; rintro e w' ⟨m, hq, rfl, rfl⟩; have HQ := Lib.hid hq; have hm2 := hq.1; clear hq)
  · have hm0 : m = 0 := by simpa using (by assumption : ((m : Int) == 0) = true)
    have hv : val xs = 0 := by
      have h1 := HQ.out.2.1
      rw [hm0] at h1
      rcases Nat.eq_zero_or_pos (val xs) with h | h
      · exact h
      · rw [dig_pos _ (by omega)] at h1; simp at h1
    refine bodyPost_ret (v := .agg #[.bool false, .slice none 0 0]) (by simp [results, Try.results57, go_sem]) rfl (HP.out _ _ ⟨_, ?_, rfl, ext_alloc (Below.refl _ _) _⟩)
    rw [hv, sgn_zero]
    exact ⟨none, 0, 0, rfl, by simp [dig_zero], by omega, by omega, by simpa [dig_zero] using Row.nil _ _ _⟩
  · have hm0 : m ≠ 0 := by simpa using (by assumption : ((m : Int) == 0) = false)
    have hv : val xs ≠ 0 := by
      intro h0
      have h1 := HQ.out.2.1
      rw [h0, dig_zero] at h1
      exact hm0 (by simpa using h1)
    refine bodyPost_ret (v := .agg #[.bool s, .slice A m m]) (by simp [results, Try.results57, go_sem]) rfl (HP.out _ _ ⟨_, ?_, rfl, ext_alloc (Below.refl _ _) _⟩)
    unfold Big
    rw [sgn_neg s _ hv, sgn_abs]
    exact ⟨A, m, m, rfl, HQ.out.2.1, by omega, by omega, HR.out.alloc _ |>.trimmed⟩
end Go.Proofs.Ythibocafjkbeeaa
/-
  Numbers and their limbs of 32 bits: plain lists and numbers. No condition.
-/
namespace Go.Proofs.Ythibocafjkbeeaa

theorem val_split : ∀ (xs : List Nat) (i : Nat), val xs = val (xs.take i) + 4294967296 ^ i * val (xs.drop i)
  | xs, 0 => by simp [val]
  | [], i + 1 => by simp [val]
  | x :: r, i + 1 => by
    have h := val_split r i
    simp only [val, List.take_succ_cons, List.drop_succ_cons]
    rw [h, Nat.pow_succ, Nat.mul_add, ← Nat.mul_assoc, Nat.mul_comm 4294967296 (4294967296 ^ i)]
    omega
theorem val_lt : ∀ (xs : List Nat), (∀ x ∈ xs, x < 4294967296) → val xs < 4294967296 ^ xs.length
  | [], _ => by simp [val]
  | x :: r, h => by
    have h1 := val_lt r fun y hy => h y (by simp [hy])
    have h2 := h x (by simp)
    simp only [val, List.length_cons, Nat.pow_succ]
    have : 4294967296 * (val r + 1) ≤ 4294967296 * 4294967296 ^ r.length := Nat.mul_le_mul_left _ h1
    rw [Nat.mul_comm (4294967296 ^ r.length)]
    omega
theorem val_take_lt (xs : List Nat) (h : ∀ x ∈ xs, x < 4294967296) (i : Nat) (hi : i ≤ xs.length) : val (xs.take i) < 4294967296 ^ i := by
  have := val_lt (xs.take i) fun x hx => h x (List.mem_of_mem_take hx)
  rwa [List.length_take, Nat.min_eq_left hi] at this
theorem val_append (xs ys : List Nat) : val (xs ++ ys) = val xs + 4294967296 ^ xs.length * val ys := by
  rw [val_split (xs ++ ys) xs.length]
  simp
theorem val_snoc (xs : List Nat) (y : Nat) : val (xs ++ [y]) = val xs + 4294967296 ^ xs.length * y := by
  rw [val_append]; simp [val]
theorem val_take_succ (xs : List Nat) (i : Nat) (hi : i < xs.length) : val (xs.take (i + 1)) = val (xs.take i) + 4294967296 ^ i * nth xs i := by
  rw [nth_eq xs i hi, List.take_succ_eq_append_getElem hi, val_snoc, List.length_take, Nat.min_eq_left (by omega)]
theorem val_take_all (xs : List Nat) (i : Nat) (hi : xs.length ≤ i) : val (xs.take i) = val xs := by rw [List.take_of_length_le hi]
theorem val_drop_succ (xs : List Nat) (i : Nat) (hi : i < xs.length) : val (xs.drop i) = nth xs i + 4294967296 * val (xs.drop (i + 1)) := by
  rw [nth_eq xs i hi, List.drop_eq_getElem_cons hi]; rfl
/-- The first limb from above in which two lists part decides. -/
theorem val_lt_of_top (xs ys : List Nat) (hx : ∀ x ∈ xs, x < 4294967296) (i : Nat) (h1 : i < xs.length) (h2 : i < ys.length) (hd : val (xs.drop (i + 1)) = val (ys.drop (i + 1))) (hlt : nth xs i < nth ys i) : val xs < val ys := by
  rw [val_split xs i, val_split ys i, val_drop_succ xs i h1, val_drop_succ ys i h2, hd]
  have := val_take_lt xs hx i (by omega)
  have h3 : 4294967296 ^ i * (nth xs i + 4294967296 * val (ys.drop (i + 1)) + 1) ≤ 4294967296 ^ i * (nth ys i + 4294967296 * val (ys.drop (i + 1))) := Nat.mul_le_mul_left _ (by omega)
  rw [Nat.mul_add _ _ 1] at h3
  omega
theorem dig_ge (n : Nat) (h : 0 < (dig n).length) : 4294967296 ^ ((dig n).length - 1) ≤ n := by
  have hv := val_dig n
  have hs := val_split (dig n) ((dig n).length - 1)
  rw [val_drop_succ _ _ (by omega)] at hs
  have hl : nth (dig n) ((dig n).length - 1) ≠ 0 := by
    rw [nth_eq _ _ (by omega)]
    refine dig_last n _ ?_
    rw [List.getLast?_eq_getElem?, List.getElem?_eq_getElem (by omega)]
  have : 4294967296 ^ ((dig n).length - 1) * 1 ≤ 4294967296 ^ ((dig n).length - 1) * (nth (dig n) ((dig n).length - 1) + 4294967296 * val (List.drop ((dig n).length - 1 + 1) (dig n))) := Nat.mul_le_mul_left _ (by omega)
  omega
theorem dig_lt_pow (n : Nat) : n < 4294967296 ^ (dig n).length := by
  have := val_lt (dig n) (dig_lt n)
  rwa [val_dig] at this
theorem dig_len_le (n L : Nat) (h : n < 4294967296 ^ L) : (dig n).length ≤ L := by
  rcases Nat.lt_or_ge L (dig n).length with g | g
  · have h1 := dig_ge n (by omega)
    have h2 : 4294967296 ^ L ≤ 4294967296 ^ ((dig n).length - 1) := Nat.pow_le_pow_right (by omega) (by omega)
    omega
  · exact g
theorem dig_len_lt (m n : Nat) (h : (dig m).length < (dig n).length) : m < n := by
  have h1 := dig_ge n (by omega)
  have h2 := dig_lt_pow m
  have h3 : 4294967296 ^ (dig m).length ≤ 4294967296 ^ ((dig n).length - 1) := Nat.pow_le_pow_right (by omega) (by omega)
  omega
theorem dig_mono (m n : Nat) (h : m ≤ n) : (dig m).length ≤ (dig n).length := by
  rcases Nat.lt_or_ge (dig n).length (dig m).length with g | g
  · have := dig_len_lt n m g; omega
  · exact g
/-- How many limbs a number takes. -/
def lc (n : Nat) : Nat := (dig n).length
theorem lc_mono {m n : Nat} (h : m ≤ n) : lc m ≤ lc n := dig_mono m n h
theorem lc_le {n L : Nat} (h : n < 4294967296 ^ L) : lc n ≤ L := dig_len_le n L h
theorem lc_pow (n : Nat) : n < 4294967296 ^ lc n := dig_lt_pow n
theorem lc_add (m n : Nat) : lc (m + n) ≤ max (lc m) (lc n) + 1 := by
  refine lc_le ?_
  have h1 : 4294967296 ^ lc m ≤ 4294967296 ^ max (lc m) (lc n) := Nat.pow_le_pow_right (by omega) (by omega)
  have h2 : 4294967296 ^ lc n ≤ 4294967296 ^ max (lc m) (lc n) := Nat.pow_le_pow_right (by omega) (by omega)
  have := lc_pow m
  have := lc_pow n
  rw [Nat.pow_succ]
  omega
theorem lc_mul (m n : Nat) : lc (m * n) ≤ lc m + lc n := by
  refine lc_le ?_
  rw [Nat.pow_add]
  exact Nat.mul_lt_mul'' (lc_pow m) (lc_pow n)
theorem lc_zero : lc 0 = 0 := by simp [lc, dig_zero]
theorem lc_pos (n : Nat) (h : n ≠ 0) : 0 < lc n := by rw [lc, dig_pos n h]; simp
/-- The order of two numbers as Go's functions tell it. -/
def ord (m n : Int) : Int := if m < n then -1 else if n < m then 1 else 0
end Go.Proofs.Ythibocafjkbeeaa
