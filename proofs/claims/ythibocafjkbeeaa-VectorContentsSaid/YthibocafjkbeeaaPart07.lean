/-
  The state of matrix.determinant in memory, and how its steps change it. No condition: plain definitions and theorems.
-/
import Derived.Test.YthibocafjkbeeaaPart06
set_option linter.unusedVariables false
set_option linter.unusedSimpArgs false
namespace Go.Proofs.Ythibocafjkbeeaa
open Go.RowKit

theorem heap_cell {w w' : World} (h : w'.heap = w.heap) (p : Addr) : w'.cell? p = w.cell? p := World.cell?_of_block (by rw [h])
theorem Big.keep {w w' : World} {ok : Nat → Prop} {v : Value} {z : Int} (h : Big w ok v z) (hk : ∀ b, ok b → b < w.heap.size → w'.heap[b]? = w.heap[b]?) : Big w' ok v z := by
  obtain ⟨A, m, c, e, h1, h2, h3, h4⟩ := h
  exact ⟨A, m, c, e, h1, h2, h3, h4.keep hk⟩
theorem big_one {w : World} {ok : Nat → Prop} {xs : List Int} {cs : List Value} (hcl : cs.length = xs.length * Kd.big.size) (hck : ∀ (i : Nat) (hi : i < xs.length), Kd.big.K w ok xs[i] ((cs.drop (i * Kd.big.size)).take Kd.big.size)) : ∀ v ∈ cs, v.oneCell' = true := by
  intro v hv
  obtain ⟨j, hj, rfl⟩ := List.mem_iff_getElem.1 hv
  have hs2 : Kd.big.size = 2 := rfl
  rw [hs2] at hcl
  have hjd : j / 2 < xs.length := by rw [Nat.div_lt_iff_lt_mul (by omega)]; omega
  refine Kd.big.one (hck (j / 2) hjd) _ ?_
  rw [List.mem_iff_getElem?]
  refine ⟨j % 2, ?_⟩
  rw [hs2, List.getElem?_take_of_lt (Nat.mod_lt _ (by omega)), List.getElem?_drop, Nat.mul_comm, Nat.div_add_mod, List.getElem?_eq_getElem hj]
/-- A row is made, put into its place and filled. -/
theorem det_fill {w wr : World} {ok : Nat → Prop} {H n k : Nat} {gs : Nat → Nat} {M0 : Nat → Nat → Int} {xs : List Int} {bd : Addr} {cs : List Value} (hM : Mx wr (H + 1) (Up ok w.heap.size) (H + 1) n k gs M0) (hH : w.heap.size = H) (hO : Own wr H 59 [.bool false, .slice none 0 0]) (hE : Below w.heap.size w wr) (hlt : k < n)
    (hxs : xs.length = n) (hx : ∀ l, l < n → nth xs l = M0 k l) (hcl : cs.length = n * 2) (hck : ∀ (i : Nat) (hi : i < xs.length), Kd.big.K w ok xs[i] ((cs.drop (i * Kd.big.size)).take Kd.big.size)) (hcb : ∀ j u, cs[j]? = some u → w.cell? (bd.add j) = some u) {p : Addr} {d : Nat} (hp : w.cell? p = some (.slice (some bd) n d))
    {W : World} (hW : W.heap = ((wr.setCell ⟨H + 1, k, none⟩ (.slice (some ⟨wr.heap.size, 0, none⟩) n n)).alloc (.cells (madeCells #[.bool false, .slice none 0 0] (n * 2)) 59)).heap) (hB : Below w.heap.size w W) :
    W.cell? ⟨H + 1, k, none⟩ = some (.slice (some ⟨wr.heap.size, 0, none⟩) n n) ∧ W.cell? p = some (.slice (some bd) n d) ∧
      (∀ ty, (Builtin.copy_ #[89, 89] ty #[.slice (some ⟨wr.heap.size, 0, none⟩) n n, .slice (some bd) n d]).run Try.prog W = .ok (.int .i64 (n : Int)) (W.setRow wr.heap.size cs.toArray)) ∧
      (W.setRow wr.heap.size cs.toArray).cell? ⟨H + 1, k, none⟩ = some (.slice (some ⟨wr.heap.size, 0, none⟩) n n) ∧ (W.setRow wr.heap.size cs.toArray).cell? p = some (.slice (some bd) n d) ∧
      Mx (W.setRow wr.heap.size cs.toArray) (H + 1) (Up ok w.heap.size) (H + 1) n (k + 1) (fun i => if i = k then wr.heap.size else gs i) M0 ∧ Own (W.setRow wr.heap.size cs.toArray) H 59 [.bool false, .slice none 0 0] ∧ Below w.heap.size w (W.setRow wr.heap.size cs.toArray) := by
  have hz := hM.out.lt
  have hsz : (Try.prog.info? 59).map (·.size) = some 2 := by kernel_rfl
  have hsz1 : (wr.setCell ⟨H + 1, k, none⟩ (.slice (some ⟨wr.heap.size, 0, none⟩) n n)).heap.size = wr.heap.size := by simp [World.setCell]
  have o2 : Own W wr.heap.size 59 (madeCells #[.bool false, .slice none 0 0] (n * 2)).toList := by
    have := Own.new (wr.setCell ⟨H + 1, k, none⟩ (.slice (some ⟨wr.heap.size, 0, none⟩) n n)) 59 (madeCells #[.bool false, .slice none 0 0] (n * 2))
    rw [hsz1] at this
    unfold Own at this ⊢
    rw [hW]; exact this
  have hold : ∀ b, b < wr.heap.size → b ≠ H + 1 → W.heap[b]? = wr.heap[b]? := fun b hb hne => by
    rw [hW, Below.heap_alloc _ _ b (by rw [hsz1]; exact hb), heap_set b hne]
  have hg : W.heap[H + 1]? = (wr.setCell ⟨H + 1, k, none⟩ (.slice (some ⟨wr.heap.size, 0, none⟩) n n)).heap[H + 1]? := by
    rw [hW, Below.heap_alloc _ _ _ (by rw [hsz1]; exact hz)]
  have e1 : W.cell? ⟨H + 1, k, none⟩ = some (.slice (some ⟨wr.heap.size, 0, none⟩) n n) := by
    have := (hM.out.set_ k (.slice (some ⟨wr.heap.size, 0, none⟩) n n)).keep (w' := W) hg
    rw [this.cell, List.getElem?_set_self (by simp; omega)]
  have e2 : W.cell? p = some (.slice (some bd) n d) := kept hB hp
  have hpl := World.block_lt_of_cell? w p hp
  have hsh : ∀ b, b ≠ wr.heap.size → (W.setRow wr.heap.size cs.toArray).heap[b]? = W.heap[b]? := fun b hb => setRow_other W _ b _ hb
  have hE2 : Below w.heap.size w (W.setRow wr.heap.size cs.toArray) := ⟨hB.os, hB.tape, hB.output, by simpa using hB.size, fun b hb => (hsh b (by have := hE.size; omega)).trans (hB.block b hb)⟩
  have hbig : ∀ v z, Big wr (Up ok w.heap.size) v z → Big (W.setRow wr.heap.size cs.toArray) (Up ok w.heap.size) v z := by
    intro v z hv
    have c1 : wr.cell? ⟨H + 1, k, none⟩ = some (.slice none 0 0) := by rw [hM.out.cell, range_get _ _ _ hlt, if_neg (by omega)]
    refine (set_big hv c1 (fun x h => by cases h) (.slice (some ⟨wr.heap.size, 0, none⟩) n n)).keep fun b _ hb => ?_
    rw [hsz1] at hb
    rw [hsh b (by omega), hW, Below.heap_alloc _ _ b (by rw [hsz1]; exact hb)]
  refine ⟨e1, e2, fun ty => run_copy_full (P := Try.prog) W _ _ ty 59 2 wr.heap.size n n bd d _ 59 cs Try.underlying89 hsz o2 hcl (fun j v hj => kept hB (hcb j v hj)) (by rw [hcl]; simp [size_madeCells]) (big_one (by rw [hxs]; exact hcl) hck), ?_, ?_, ?_, ?_, hE2⟩
  · rw [cell_setRow_other W _ _ _ (by simp; omega)]; exact e1
  · rw [cell_setRow_other W _ _ _ (by have := hE.size; omega)]; exact e2
  · refine Mx.add hM hlt rfl (by omega) (by rw [hsh _ (by omega)]; exact hg) (fun b hb hne => by rw [hsh _ (by omega), hold b hb hne]) hcl (by
      unfold Own
      exact setRow_heap W _ _ _ _ _ o2) (fun l hl => ?_) hbig
    have hK := hck l (by omega)
    obtain ⟨B, a, c, hcs, hbg⟩ := big_of_K hK
    have hs2 : Kd.big.size = 2 := rfl
    rw [hs2] at hcs
    have g1 : cs[l * 2]? = some (.bool (decide (xs[l]'(by omega) < 0))) := by
      have := congrArg (fun a : List Value => a[0]?) hcs
      simp only [List.getElem?_take_of_lt (show 0 < 2 by omega), List.getElem?_drop, Nat.add_zero] at this
      exact this
    have g2 : cs[l * 2 + 1]? = some (.slice B a c) := by
      have := congrArg (fun a : List Value => a[1]?) hcs
      simp only [List.getElem?_take_of_lt (show 1 < 2 by omega), List.getElem?_drop] at this
      exact this
    refine ⟨_, _, g1, g2, ?_⟩
    rw [← hx l hl, nth_eq xs l (by omega)]
    exact ((hbg.weak fun b h _ => .inl h).ext hE2)
  · exact (hO.keep (w' := W) (hold H hO.lt (by omega))).keep (hsh H (by have := hO.lt; omega))

theorem elmP_l (M : Nat → Nat → Int) (k : Nat) (last : Int) (i j b : Nat) : elmP M k last i j k b = M k b := by unfold elmP; rw [if_neg (by omega)]
theorem elmP_c (M : Nat → Nat → Int) (k : Nat) (last : Int) (i j a : Nat) : elmP M k last i j a k = M a k := by unfold elmP; rw [if_neg (by omega)]
theorem elmP_here (M : Nat → Nat → Int) (k : Nat) (last : Int) (i j : Nat) : elmP M k last i j i j = M i j := by unfold elmP; rw [if_neg (by omega)]
theorem elmP_step (M : Nat → Nat → Int) (k : Nat) (last : Int) (i j : Nat) (hi : k < i) (hj : k < j) : elmP M k last i (j + 1) = fun a b => if a = i ∧ b = j then (M k k * M i j - M i k * M k j) / last else elmP M k last i j a b := by
  funext a b
  unfold elmP
  by_cases h : a = i ∧ b = j
  · obtain ⟨rfl, rfl⟩ := h
    rw [if_pos (by omega), if_pos ⟨rfl, rfl⟩]
  · rw [if_neg h]
    by_cases h2 : k < a ∧ k < b ∧ (a < i ∨ a = i ∧ b < j)
    · rw [if_pos h2, if_pos (by omega)]
    · rw [if_neg h2, if_neg (by omega)]
theorem elmP_row (M : Nat → Nat → Int) (k : Nat) (last : Int) (i n : Nat) {a b : Nat} (hb : b < n) : elmP M k last i n a b = elmP M k last (i + 1) (k + 1) a b := by
  unfold elmP
  by_cases h2 : k < a ∧ k < b ∧ (a < i ∨ a = i ∧ b < n)
  · rw [if_pos h2, if_pos (by omega)]
  · rw [if_neg h2, if_neg (by omega)]
theorem elmP_start (M : Nat → Nat → Int) (k : Nat) (last : Int) : elmP M k last (k + 1) (k + 1) = M := by
  funext a b
  unfold elmP
  rw [if_neg (by omega)]
theorem elmP_end (M : Nat → Nat → Int) (k : Nat) (last : Int) (n : Nat) {a b : Nat} (ha : a < n) : elmP M k last n (k + 1) a b = elm M k last a b := by
  unfold elmP elm
  by_cases h2 : k < a ∧ k < b
  · rw [if_pos (by omega), if_pos h2]
  · rw [if_neg (by omega), if_neg h2]
/-- The state: the matrix, the result's cell, and the last pivot. -/
structure DI (w w' : World) (ok : Nat → Prop) (n T : Nat) (gs : Nat → Nat) (M : Nat → Nat → Int) (last : Int) (B : Option Addr) (a c : Nat) : Prop where
  mx : Mx w' (w.heap.size + 1) (Up ok w.heap.size) (w.heap.size + 1) n n gs M
  rs : Own w' w.heap.size 59 [.bool false, .slice none 0 0]
  ext : Below w.heap.size w w'
  lst : Own w' T 59 [.bool (decide (last < 0)), .slice B a c]
  big : Big w' (Up ok w.heap.size) (.agg #[.bool (decide (last < 0)), .slice B a c]) last
  ne : w.heap.size + 1 < T
  gne : ∀ i, i < n → gs i ≠ T
section
variable {w w1 w2 : World} {ok : Nat → Prop} {n T : Nat} {gs : Nat → Nat} {M M' : Nat → Nat → Int} {last z : Int} {B : Option Addr} {a c : Nat}
theorem DI.move (h : DI w w1 ok n T gs M last B a c) (hb : Below w1.heap.size w1 w2) : DI w w2 ok n T gs M last B a c :=
  ⟨h.mx.ext hb, h.rs.ext hb, ext_trans h.ext hb, h.lst.ext hb, h.big.ext hb, h.ne, h.gne⟩
theorem DI.same (h : DI w w1 ok n T gs M last B a c) (e : ∀ i j, i < n → j < n → M i j = M' i j) : DI w w1 ok n T gs M' last B a c :=
  ⟨⟨h.mx.out, fun k hk => by
    obtain ⟨us, h1, h2, h3⟩ := h.mx.rows k hk
    exact ⟨us, h1, h2, fun l hl => by rw [← e k l hk hl]; exact h3 l hl⟩, h.mx.inj, h.mx.ne, h.mx.lo, h.mx.los⟩, h.rs, h.ext, h.lst, h.big, h.ne, h.gne⟩
theorem DI.glo (h : DI w w1 ok n T gs M last B a c) {i : Nat} (hi : i < n) : w.heap.size + 1 ≤ gs i := h.mx.los i hi
theorem DI.swap (h : DI w w1 ok n T gs M last B a c) {p k : Nat} (hp : p < n) (hk : k < n) (hpk : p ≠ k) :
    DI w ((w1.setCell ⟨w.heap.size + 1, p, none⟩ (.slice (some ⟨gs k, 0, none⟩) n n)).setCell ⟨w.heap.size + 1, k, none⟩ (.slice (some ⟨gs p, 0, none⟩) n n)) ok n T (fun i => gs (if i = p then k else if i = k then p else i)) (swp M p k) last B a c := by
  have c1 := h.mx.at_ hp hp
  have c2 := h.mx.at_ hk hk
  have hT := h.ne
  refine ⟨h.mx.swap hp hk hpk, (h.rs.far (by simp) _).far (by simp) _, ext_set (ext_set h.ext (by simp) _) (by simp) _, (h.lst.far (by simp; omega) _).far (by simp; omega) _, set_big (set_big h.big c1 (fun x h => by cases h) _) (set_apart (by simp) c2) (fun x h => by cases h) _, h.ne, fun i hi => h.gne _ ?_⟩
  split
  · exact hk
  · split
    · exact hp
    · exact hi
theorem DI.store (h : DI w w1 ok n T gs M last B a c) {i j : Nat} (hi : i < n) (hj : j < n) {x y : Value} (hz : Big w1 (Up ok w.heap.size) (.agg #[x, y]) z) :
    DI w ((w1.setCell ⟨gs i, j * 2, none⟩ x).setCell ⟨gs i, j * 2 + 1, none⟩ y) ok n T gs (fun a b => if a = i ∧ b = j then z else M a b) last B a c := by
  obtain ⟨B1, m1, d1, c1, c2, -⟩ := h.mx.el hi hj
  have hg := h.glo hi
  have hn := h.gne i hi
  exact ⟨h.mx.store hi hj hz, (h.rs.far (by simp; omega) _).far (by simp; omega) _, ext_set (ext_set h.ext (by simp; omega) _) (by simp; omega) _, (h.lst.far (by simp; exact fun h => hn h.symm) _).far (by simp; exact fun h => hn h.symm) _, set_big (set_big h.big c1 (fun x h => by cases h) _) (set_apart (by simp) c2) (fun x h => by cases h) _, h.ne, h.gne⟩
theorem DI.pivot (h : DI w w1 ok n T gs M last B a c) {B1 : Option Addr} {m1 d1 : Nat} (hz : Big w1 (Up ok w.heap.size) (.agg #[.bool (decide (z < 0)), .slice B1 m1 d1]) z) :
    DI w ((w1.setCell ⟨T, 0, none⟩ (.bool (decide (z < 0)))).setCell ⟨T, 1, none⟩ (.slice B1 m1 d1)) ok n T gs M z B1 m1 d1 := by
  have c1 : w1.cell? ⟨T, 0, none⟩ = some (.bool (decide (last < 0))) := h.lst.cell 0
  have c2 : w1.cell? ⟨T, 1, none⟩ = some (.slice B a c) := h.lst.cell 1
  have c3 := set_apart (w := w1) (p := ⟨T, 0, none⟩) (q := ⟨T, 1, none⟩) (u := .bool (decide (z < 0))) (by simp) c2
  have hT := h.ne
  refine ⟨(h.mx.other c1 (fun x h => by cases h) (by simp; omega) (fun k hk => Ne.symm (h.gne k hk)) _).other c3 (fun x h => by cases h) (by simp; omega) (fun k hk => Ne.symm (h.gne k hk)) _, (h.rs.far (by simp; omega) _).far (by simp; omega) _, ext_set (ext_set h.ext (by simp; omega) _) (by simp; omega) _, (h.lst.set_ 0 _).set_ 1 _, set_big (set_big hz c1 (fun x h => by cases h) _) c3 (fun x h => by cases h) _, h.ne, h.gne⟩
end
theorem firstRow_step {M : Nat → Nat → Int} {k n p : Nat} (hp : p < n) (h0 : M p k = 0) : firstRow M k (n - p) p = firstRow M k (n - (p + 1)) (p + 1) := by
  obtain ⟨d, hd⟩ : ∃ d, n - p = d + 1 := ⟨n - p - 1, by omega⟩
  rw [hd, show n - (p + 1) = d from by omega, firstRow, if_pos h0]
theorem firstRow_stop {M : Nat → Nat → Int} {k n p : Nat} (hp : p < n) (h0 : M p k ≠ 0) : firstRow M k (n - p) p = p := by
  obtain ⟨d, hd⟩ : ∃ d, n - p = d + 1 := ⟨n - p - 1, by omega⟩
  rw [hd, firstRow, if_neg h0]
/-- What is known of a stage whose pivot is in its place. -/
structure Stage (n k : Nat) (M : Nat → Nat → Int) (last : Int) (odd : Bool) (res : Int) : Prop where
  nz : last ≠ 0
  sl : Sm last
  sm : ∀ i j, i < n → j < n → Sm (M i j)
  st : ∀ i j, k < i → i < n → k < j → j < n → Sm (M k k * M i j) ∧ Sm (M i k * M k j) ∧ Sm (M k k * M i j - M i k * M k j) ∧ DivCan (M k k * M i j - M i k * M k j).natAbs last.natAbs
  ok : DetOk n (n - (k + 1)) (k + 1) (elm M k last) (M k k)
  eq : detRun (n - (k + 1)) (k + 1) (elm M k last) (M k k) odd = res
theorem stage_of {n k q : Nat} {M : Nat → Nat → Int} {last res : Int} {odd : Bool} (h : DetOk n (n - k) k M last ∧ detRun (n - k) k M last odd = res) (hk : k < n) (hq : q < n) (hf : firstRow M k (n - k) k = q) :
    Stage n k (if q = k then M else swp M q k) last (if q = k then odd else !odd) res := by
  obtain ⟨d, hd⟩ : ∃ d, n - k = d + 1 := ⟨n - k - 1, by omega⟩
  obtain ⟨h1, h2⟩ := h
  rw [hd] at h1 h2 hf
  rw [DetOk] at h1
  rw [detRun] at h2
  have hqk : k ≤ q := by have := (firstRow_range M k (d + 1) k).1; omega
  simp only [hf] at h1 h2
  obtain ⟨a1, a2, a3, a4⟩ := h1
  obtain ⟨a5, a6⟩ := a4 (by omega)
  rw [if_neg (by omega)] at h2
  have e : n - (k + 1) = d := by omega
  refine ⟨a1, a2, fun i j hi hj => ?_, a5, by rw [e]; exact a6, by rw [e]; exact h2⟩
  split
  · exact a3 i j hi hj
  · unfold swp
    refine a3 _ _ ?_ hj
    split
    · exact hk
    · split
      · exact hq
      · exact hi
theorem stage_zero {n k : Nat} {M : Nat → Nat → Int} {last res : Int} {odd : Bool} (h : detRun (n - k) k M last odd = res) (hk : k < n) (hf : firstRow M k (n - k) k = n) : res = 0 := by
  obtain ⟨d, hd⟩ : ∃ d, n - k = d + 1 := ⟨n - k - 1, by omega⟩
  rw [hd] at h hf
  rw [detRun] at h
  simp only [hf] at h
  rw [if_pos (by omega)] at h
  exact h.symm
theorem all_kept10 {w w1 : World} (hb : Below w.heap.size w w1) {p1 p2 p3 p4 p5 p6 p7 p8 p9 p10 : Addr} {u1 u2 u3 u4 u5 u6 u7 u8 u9 u10 : Value} (h : w.cell? p1 = some u1 ∧ w.cell? p2 = some u2 ∧ w.cell? p3 = some u3 ∧ w.cell? p4 = some u4 ∧ w.cell? p5 = some u5 ∧ w.cell? p6 = some u6 ∧ w.cell? p7 = some u7 ∧ w.cell? p8 = some u8 ∧ w.cell? p9 = some u9 ∧ w.cell? p10 = some u10) :
    w1.cell? p1 = some u1 ∧ w1.cell? p2 = some u2 ∧ w1.cell? p3 = some u3 ∧ w1.cell? p4 = some u4 ∧ w1.cell? p5 = some u5 ∧ w1.cell? p6 = some u6 ∧ w1.cell? p7 = some u7 ∧ w1.cell? p8 = some u8 ∧ w1.cell? p9 = some u9 ∧ w1.cell? p10 = some u10 :=
  ⟨kept hb h.1, kept hb h.2.1, kept hb h.2.2.1, kept hb h.2.2.2.1, kept hb h.2.2.2.2.1, kept hb h.2.2.2.2.2.1, kept hb h.2.2.2.2.2.2.1, kept hb h.2.2.2.2.2.2.2.1, kept hb h.2.2.2.2.2.2.2.2.1, kept hb h.2.2.2.2.2.2.2.2.2⟩
theorem Big.up2 {w w1 w' : World} {ok : Nat → Prop} {v : Value} {z : Int} (h : Big w' (Up (Up ok w.heap.size) w1.heap.size) v z) (hb : Below w.heap.size w w1) : Big w' (Up ok w.heap.size) v z := by
  obtain ⟨A, m, c, e, h1, h2, h3, h4⟩ := h
  exact ⟨A, m, c, e, h1, h2, h3, (h4.up2 hb).weak fun b hb _ => by
    rcases hb with (hb | hb) | hb
    · exact .inl hb
    · exact .inr hb
    · exact .inr hb⟩
theorem Big.lit {w : World} {ok : Nat → Prop} {v : Value} {z : Int} (h : Big w ok v z) : ∃ A m c, v = .agg #[.bool (decide (z < 0)), .slice A m c] := by
  obtain ⟨A, m, c, e, -⟩ := h
  exact ⟨A, m, c, e⟩
/-- A new cell X that holds x. -/
structure DX (w W : World) (ok : Nat → Prop) (X : Nat) (z : Int) (A : Option Addr) (l d : Nat) : Prop where
  own : Own W X 59 [.bool (decide (z < 0)), .slice A l d]
  big : Big W (Up ok w.heap.size) (.agg #[.bool (decide (z < 0)), .slice A l d]) z
theorem DI.fresh {w w1 W : World} {ok : Nat → Prop} {n T : Nat} {gs : Nat → Nat} {M : Nat → Nat → Int} {last : Int} {B : Option Addr} {a c : Nat} (h : DI w w1 ok n T gs M last B a c) {X : Nat} {z : Int} {A : Option Addr} {l d : Nat} (hX : Own W X 59 [.bool false, .slice none 0 0]) (hb : Below w1.heap.size w1 W) (hl : w1.heap.size ≤ X) (hz : Big W (Up ok w.heap.size) (.agg #[.bool (decide (z < 0)), .slice A l d]) z) :
    DI w ((W.setCell ⟨X, 0, none⟩ (.bool (decide (z < 0)))).setCell ⟨X, 1, none⟩ (.slice A l d)) ok n T gs M last B a c ∧ DX w ((W.setCell ⟨X, 0, none⟩ (.bool (decide (z < 0)))).setCell ⟨X, 1, none⟩ (.slice A l d)) ok X z A l d := by
  have c1 := hX.cell 0
  have c2 := set_apart (w := W) (p := ⟨X, 0, none⟩) (q := ⟨X, 1, none⟩) (u := .bool (decide (z < 0))) (by simp) (hX.cell 1)
  exact ⟨h.move (ext_set (ext_set hb hl _) hl _), (hX.set_ 0 _).set_ 1 _, set_big (set_big hz c1 (fun x h => by cases h) _) c2 (fun x h => by cases h) _⟩
theorem DI.fresh_alloc {w w1 W : World} {ok : Nat → Prop} {n T : Nat} {gs : Nat → Nat} {M : Nat → Nat → Int} {last : Int} {B : Option Addr} {a c : Nat} (h : DI w w1 ok n T gs M last B a c) {z : Int} {A : Option Addr} {l d : Nat} (hb : Below w1.heap.size w1 W) (hz : Big W (Up ok w.heap.size) (.agg #[.bool (decide (z < 0)), .slice A l d]) z) :
    DI w (W.alloc (.cells #[.bool (decide (z < 0)), .slice A l d] 59)) ok n T gs M last B a c ∧ DX w (W.alloc (.cells #[.bool (decide (z < 0)), .slice A l d] 59)) ok W.heap.size z A l d :=
  ⟨h.move (ext_alloc hb _), Own.new W _ _, hz.ext (ext_alloc (Below.refl _ _) _)⟩
theorem all_kept5 {w w1 : World} (hb : Below w.heap.size w w1) {p1 p2 p3 p4 p5 : Addr} {u1 u2 u3 u4 u5 : Value} (h : w.cell? p1 = some u1 ∧ w.cell? p2 = some u2 ∧ w.cell? p3 = some u3 ∧ w.cell? p4 = some u4 ∧ w.cell? p5 = some u5) :
    w1.cell? p1 = some u1 ∧ w1.cell? p2 = some u2 ∧ w1.cell? p3 = some u3 ∧ w1.cell? p4 = some u4 ∧ w1.cell? p5 = some u5 :=
  ⟨kept hb h.1, kept hb h.2.1, kept hb h.2.2.1, kept hb h.2.2.2.1, kept hb h.2.2.2.2⟩
theorem all_far5 {w : World} {g x y b o o2 c1 c2 c3 c4 c5 : Nat} {u1 u2 u3 u4 u5 v1 v2 : Value} (hn : g ≠ b ∧ x ≠ b ∧ y ≠ b) (h : w.cell? ⟨g, c1, none⟩ = some u1 ∧ w.cell? ⟨x, c2, none⟩ = some u2 ∧ w.cell? ⟨x, c3, none⟩ = some u3 ∧ w.cell? ⟨y, c4, none⟩ = some u4 ∧ w.cell? ⟨y, c5, none⟩ = some u5) :
    ((w.setCell ⟨b, o, none⟩ v1).setCell ⟨b, o2, none⟩ v2).cell? ⟨g, c1, none⟩ = some u1 ∧ ((w.setCell ⟨b, o, none⟩ v1).setCell ⟨b, o2, none⟩ v2).cell? ⟨x, c2, none⟩ = some u2 ∧ ((w.setCell ⟨b, o, none⟩ v1).setCell ⟨b, o2, none⟩ v2).cell? ⟨x, c3, none⟩ = some u3 ∧ ((w.setCell ⟨b, o, none⟩ v1).setCell ⟨b, o2, none⟩ v2).cell? ⟨y, c4, none⟩ = some u4 ∧ ((w.setCell ⟨b, o, none⟩ v1).setCell ⟨b, o2, none⟩ v2).cell? ⟨y, c5, none⟩ = some u5 :=
  ⟨set_far hn.1.symm (set_far hn.1.symm h.1), set_far hn.2.1.symm (set_far hn.2.1.symm h.2.1), set_far hn.2.1.symm (set_far hn.2.1.symm h.2.2.1), set_far hn.2.2.symm (set_far hn.2.2.symm h.2.2.2.1), set_far hn.2.2.symm (set_far hn.2.2.symm h.2.2.2.2)⟩
theorem Big.zero (w : World) (ok : Nat → Prop) : Big w ok (.agg #[.bool false, .slice none 0 0]) 0 :=
  ⟨none, 0, 0, by simp, by simp [dig_zero], by omega, by omega, by rw [Int.natAbs_zero, dig_zero]; exact Row.nil _ _ _⟩
end Go.Proofs.Ythibocafjkbeeaa
/-
  matrix.determinant: what it returns. Condition: the matrix is square with 1 to 16 rows, and all numbers of the elimination are among those that are spoken of (DetOk).
-/
namespace Go.Proofs.Ythibocafjkbeeaa
open Go.RowKit

set_option maxRecDepth 100000 in
set_option maxHeartbeats 4000000 in
theorem det_any (ok : Nat → Prop) (A : Option Addr) (n c : Nat) (m : List (List Int)) (w : World) (hn : n = m.length) (h1 : 1 ≤ n) (h16 : n ≤ 16) (hsq : ∀ i, i < n → (nth m i).length = n) (hok : DetOk n n 0 (fun i j => nth (nth m i) j) 1) (h : Row Kd.big.slice w ok A m) :
    Calls Try.prog 91 #[.slice A n c] w fun e w' => ∃ v, Big w' (Up ok w.heap.size) v (detRun n 0 (fun i j => nth (nth m i) j) 1 false) ∧ e = .returned v ∧ Below w.heap.size w w' := by
  refine veil fun R HP => ?_
  have HR := Lib.hid h
  have HN := Lib.hid hn
  have HS := Lib.hid hsq
  have HOK := Lib.hid hok
  obtain ⟨M0, hM0⟩ : ∃ M0 : Nat → Nat → Int, M0 = fun i j => nth (nth m i) j := ⟨_, rfl⟩
  rw [← hM0] at HP HOK
  have HM0 := Lib.hid hM0
  clear h hn hsq hok hM0
  have mk1 : ∀ W : World, (Instr.makeSlice 65 (.int .i64 (n : Int)) (.int .i64 (n : Int))).run Try.prog W = .ok (.slice (some ⟨W.heap.size, 0, none⟩) n n) (W.alloc (.cells (madeCells #[.slice none 0 0] n) 89)) := fun W => by
    have := make_n (P := Try.prog) 65 89 (.slice none 0 0) 1 24 Try.underlying65 info_bigs n (by omega) (by omega) W
    rw [Nat.mul_one] at this
    exact this
  have mk2 := fun W => make_n (P := Try.prog) 89 59 (.agg #[.bool false, .slice none 0 0]) 2 32 Try.underlying89 info_int n (by omega) (by omega) W
  have hsz : (Try.prog.info? 59).map (·.size) = some 2 := by kernel_rfl
  have HSZ := Lib.hid hsz
  clear hsz
  have B0 := Lib.hid (ext_alloc (ext_alloc (Below.refl w.heap.size w) (.cells #[.bool false, .slice none 0 0] 59)) (.cells (madeCells #[.slice none 0 0] n) 89))
  have X0 := Lib.hid ((Own.new w 59 #[.bool false, .slice none 0 0]).alloc (.cells (madeCells #[.slice none 0 0] n) 89))
  have Y0 := Lib.hid (Mx.start (w.alloc (.cells #[.bool false, .slice none 0 0] 59)) (w.heap.size + 1) (Up ok w.heap.size) n (by simp) (fun _ => 0) M0)
  go_enter Try.func91, Try.ntmps91
  go_wp2
  clear mk1
  go_loopw [19] (fun i w' => ∃ (k : Nat) (gs : Nat → Nat), k ≤ n ∧ i = .int .i64 (k : Int) ∧ Hid (Mx w' (w.heap.size + 1) (Up ok w.heap.size) (w.heap.size + 1) n k gs M0 ∧ Own w' w.heap.size 59 [.bool false, .slice none 0 0] ∧ Below w.heap.size w w')) (fun i _ => n - (intOf i).toNat)
  case atStart => exact ⟨0, _, by omega, rfl, by simpa using Y0.out, X0.out, B0.out⟩
  case round =>
    obtain ⟨k, gs, hk, rfl, HI⟩ := hrel
    by_cases hlt : k < n
    · have c1 : ∃ u, wr.cell? ⟨w.heap.size + 1, k, none⟩ = some u := ⟨_, by rw [HI.out.1.out.cell, range_get _ _ _ hlt]⟩
      obtain ⟨u0, c1⟩ := c1
      have f1 := HI.out.1.out.free k
      have hz := HI.out.1.out.lt
      obtain ⟨ad, B, e, rfl, d1, hd, -, hB⟩ := HR.out.sub (i := k) (by have := HN.out; omega)
      rw [HS.out k hlt] at d1 hd
      obtain ⟨cs, hcl, hck, hca⟩ := hB.cells
      rw [HS.out k hlt] at hcl hca
      obtain ⟨bd, rfl, -, -, hcb⟩ := hca (by omega)
      have FILL := Lib.hid (fun W hW hBW => det_fill (xs := nth m k) HI.out.1 rfl HI.out.2.1 HI.out.2.2 hlt (HS.out k hlt) (fun l hl => by rw [HM0.out]) hcl hck hcb d1 (W := W) hW hBW)
      have hE2 := Lib.hid (ext_drew (ext_alloc (ext_set HI.out.2.2 (p := ⟨w.heap.size + 1, k, none⟩) (by simp) (.slice (some ⟨wr.heap.size, 0, none⟩) n n)) (.cells (madeCells #[.bool false, .slice none 0 0] (n * 2)) 59)))
      have i1 : (0 : Int) ≤ (k : Int) := by omega
      have i2 : (k : Int) < (n : Int) := by omega
      clear hcl hck hca hcb hB d1
      go_wp2
      have F0 := FILL.out _ (by rfl) hE2.out
      obtain ⟨e1, e2, e3, e4, e5, e6⟩ := F0
      have F6 := Lib.hid e6
      clear e6
      go_region_held3 (fun w' => w'.cell? ⟨w.heap.size + 1, k, none⟩ = some (.slice (some ⟨wr.heap.size, 0, none⟩) n n) ∧ w'.cell? (ad.add k) = some (.slice (some bd) n e))
        (first | exact ⟨e1, e2⟩ | exact ⟨e4, e5⟩)
        (fail)
      go_wp2
      go_roundw
      case rel => exact ⟨k + 1, _, by omega, by go_num, F6.out.1, F6.out.2.1, F6.out.2.2⟩
      case measure => simp [intOf] <;> omega
    · obtain rfl : n = k := by omega
      clear mk2 B0 X0 Y0
      go_wp2_with fail
      with_reducible refine (Small_big ok 1 _ (by omega) (by omega)).mono ?_
      rintro e w1 ⟨v, ⟨A1, l1, d1, rfl, hv⟩, rfl, hb⟩
      have Q1 := Lib.hid (show Big w1 (Up ok w.heap.size) (.agg #[.bool (decide ((1 : Int) < 0)), .slice A1 l1 d1]) 1 from ⟨A1, l1, d1, rfl, hv.1, hv.2.1, hv.2.2.1, hv.2.2.2.up2 HI.out.2.2⟩)
      have D1 := Lib.hid (show DI w (w1.alloc (.cells #[.bool (decide ((1 : Int) < 0)), .slice A1 l1 d1] 59)) ok n w1.heap.size gs M0 1 A1 l1 d1 from by
        have hM := (HI.out.1.ext hb)
        refine ⟨hM.ext (ext_alloc (Below.refl _ _) _), (HI.out.2.1.ext hb).alloc _, ext_alloc (ext_trans HI.out.2.2 hb) _, Own.new w1 _ _, Q1.out.ext (ext_alloc (Below.refl _ _) _), hM.out.lt, fun i hi => ?_⟩
        obtain ⟨us, -, h2, -⟩ := hM.rows i hi
        have := h2.lt
        omega)
      clear hv hb
      go_wp2
      obtain ⟨res, hres⟩ : ∃ res, res = detRun n 0 M0 1 false := ⟨_, rfl⟩
      have HOK1 := Lib.hid (And.intro HOK.out hres.symm)
      rw [← hres] at HP
      obtain ⟨T, hT⟩ : ∃ T, T = w1.heap.size := ⟨_, rfl⟩
      have HT := Lib.hid hT
      clear hres hT HOK
      go_loopw [6, 39] (fun o i w' => ∃ (j : Nat) (odd : Bool) (gs : Nat → Nat) (M : Nat → Nat → Int) (last : Int) (B : Option Addr) (a c : Nat), j ≤ n ∧ o = .bool odd ∧ i = .int .i64 (j : Int) ∧ Hid (DI w w' ok n T gs M last B a c) ∧ Hid (DetOk n (n - j) j M last ∧ detRun (n - j) j M last odd = res)) (fun _ i _ => n - (intOf i).toNat)
      case atStart => exact ⟨0, false, gs, M0, 1, A1, l1, d1, by omega, rfl, rfl, Lib.hid (by rw [HT.out]; exact D1.out), HOK1⟩
      case round =>
        obtain ⟨j, odd, gs2, M, last, B, a, c2, hj, rfl, rfl, HD, HE⟩ := hrel
        clear D1 HOK1
        obtain ⟨wo, rfl⟩ : ∃ wo : World, wo = wr := ⟨_, rfl⟩
        by_cases hlt2 : j < n
        · go_wp2
          go_loopw [9] (fun p w' => ∃ q : Nat, j ≤ q ∧ q ≤ n ∧ p = .int .i64 (q : Int) ∧ Hid (firstRow M j (n - q) q = firstRow M j (n - j) j) ∧ Hid (DI w w' ok n T gs2 M last B a c2)) (fun p _ => n - (intOf p).toNat)
          case atStart => exact ⟨j, by omega, by omega, rfl, Lib.hid rfl, HD⟩
          case round =>
            obtain ⟨q, hjq, hqn, rfl, HF, HD2⟩ := hrel
            by_cases hq : q < n
            · have r1 := HD2.out.mx.at_ hq hq
              obtain ⟨B1, m1, c1, r2, r3, hb1⟩ := HD2.out.mx.el hq hlt2
              have i1 : (0 : Int) ≤ (q : Int) := by omega
              have i2 : (q : Int) < (n : Int) := by omega
              have i3 : (0 : Int) ≤ (j : Int) := by omega
              have i4 : (j : Int) < (n : Int) := by omega
              have HB1 := Lib.hid hb1
              clear hb1
              go_wp2_with fail
              with_reducible refine (Sign_big _ _ _ _ HB1.out).mono ?_
              rintro e w2 ⟨rfl, hb⟩
              have HD3 := Lib.hid (HD2.out.move hb)
              clear hb r1 r2 r3 HB1
              by_cases h0 : M q j = 0
              · have t1 : ((M q j).sign == 0) = true := by simp [h0]
                go_wp2
                go_roundw
                case rel => exact ⟨q + 1, by omega, by omega, by go_num, Lib.hid ((firstRow_step hq h0).symm.trans HF.out), HD3⟩
                case measure => simp [intOf] <;> omega
              · have t1 : ((M q j).sign == 0) = false := by simp [h0]
                have t2 : ((q : Int) == (n : Int)) = false := by simp; omega
                have HQ := Lib.hid (HF.out.symm.trans (firstRow_stop hq h0))
                clear HF HD2
                obtain ⟨bb, t3⟩ : ∃ bb : Bool, ((q : Int) != (j : Int)) = bb := ⟨_, rfl⟩
                have HBB := Lib.hid t3
                go_upto_if 65 with fail
                go_cut [6] (fun o wx => ∃ (gs3 : Nat → Nat) (M3 : Nat → Nat → Int) (odd3 : Bool), o = .bool odd3 ∧ Hid (DI w wx ok n T gs3 M3 last B a c2) ∧ Hid (Stage n j M3 last odd3 res))
                case first =>
                  clear t3
                  cases bb
                  · obtain rfl : j = q := by have := HBB.out; simp at this; omega
                    go_wp2
                    go_meet
                    have ST := stage_of HE.out hlt2 hq HQ.out
                    rw [if_pos rfl, if_pos rfl] at ST
                    exact ⟨_, _, _, rfl, HD3, Lib.hid ST⟩
                  · have hqj : ¬q = j := by have := HBB.out; simp at this; omega
                    have r1 := HD3.out.mx.at_ hq hq
                    have r2 := HD3.out.mx.at_ hlt2 hlt2
                    have f1 := HD3.out.mx.out.free q
                    have f2 := HD3.out.mx.out.free j
                    go_wp2
                    go_region
                    go_wp2
                    go_meet
                    have ST := stage_of HE.out hlt2 hq HQ.out
                    rw [if_neg hqj, if_neg hqj] at ST
                    exact ⟨_, _, _, rfl, Lib.hid ((HD3.out.move (ext_drew (Below.refl _ _))).swap hq hlt2 hqj), Lib.hid ST⟩
                case rest =>
                  obtain ⟨gs3, M3, odd3, rfl, S0, HST⟩ := hcut
                  clear t1 t2 t3 h0 HQ HE HBB
                  go_wp2
                  go_loopw [10] (fun i w' => ∃ a1 : Nat, j < a1 ∧ a1 ≤ n ∧ i = .int .i64 (a1 : Int) ∧ Hid (DI w w' ok n T gs3 (elmP M3 j last a1 (j + 1)) last B a c2)) (fun i _ => n - (intOf i).toNat)
                  case atStart => exact ⟨j + 1, by omega, by omega, by go_num, Lib.hid (by rw [elmP_start]; exact S0.out)⟩
                  case round =>
                    obtain ⟨a1, ha1, han, rfl, HD4⟩ := hrel
                    by_cases hlt3 : a1 < n
                    · go_wp2
                      go_loopw [11] (fun i w' => ∃ b1 : Nat, j < b1 ∧ b1 ≤ n ∧ i = .int .i64 (b1 : Int) ∧ Hid (DI w w' ok n T gs3 (elmP M3 j last a1 b1) last B a c2)) (fun i _ => n - (intOf i).toNat)
                      case atStart => exact ⟨j + 1, by omega, by omega, by go_num, HD4⟩
                      case round =>
                        obtain ⟨b1, hb1, hbn, rfl, HD5⟩ := hrel
                        by_cases hlt4 : b1 < n
                        · have cj := HD5.out.mx.at_ hlt2 hlt2
                          have ca := HD5.out.mx.at_ hlt3 hlt3
                          obtain ⟨E1, p1, q1, x1, y1, hx1⟩ := HD5.out.mx.el hlt2 hlt2
                          obtain ⟨E2, p2, q2, x2, y2, hx2⟩ := HD5.out.mx.el hlt3 hlt4
                          obtain ⟨E3, p3, q3, x3, y3, hx3⟩ := HD5.out.mx.el hlt3 hlt2
                          obtain ⟨E4, p4, q4, x4, y4, hx4⟩ := HD5.out.mx.el hlt2 hlt4
                          rw [elmP_l] at x1 hx1 x4 hx4
                          rw [elmP_here] at x2 hx2
                          rw [elmP_c] at x3 hx3
                          have X1 := Lib.hid hx1
                          have X2 := Lib.hid hx2
                          have X3 := Lib.hid hx3
                          have X4 := Lib.hid hx4
                          have C0 := Lib.hid (And.intro cj (And.intro ca (And.intro x1 (And.intro y1 (And.intro x2 (And.intro y2 (And.intro x3 (And.intro y3 (And.intro x4 y4)))))))))
                          clear hx1 hx2 hx3 hx4
                          have k1 : (0 : Int) ≤ (a1 : Int) := by omega
                          have k2 : (a1 : Int) < (n : Int) := by omega
                          have k3 : (0 : Int) ≤ (b1 : Int) := by omega
                          have k4 : (b1 : Int) < (n : Int) := by omega
                          have k5 : (0 : Int) ≤ (j : Int) := by omega
                          have k6 : (j : Int) < (n : Int) := by omega
                          go_upto_region 27 with fail
                          go_cut [12] (fun x wx => ∃ (X : Nat) (A5 : Option Addr) (l5 d5 : Nat), x = .pointer (some ⟨X, 0, none⟩) ∧ Hid (wr.heap.size ≤ X ∧ DI w wx ok n T gs3 (elmP M3 j last a1 b1) last B a c2 ∧ DX w wx ok X (M3 j j * M3 a1 b1 - M3 a1 j * M3 j b1) A5 l5 d5))
                          case first =>
                            go_region_held3 (fun w' => w'.cell? ⟨w.heap.size + 1, j, none⟩ = some (.slice (some ⟨gs3 j, 0, none⟩) n n) ∧ w'.cell? ⟨w.heap.size + 1, a1, none⟩ = some (.slice (some ⟨gs3 a1, 0, none⟩) n n) ∧ w'.cell? ⟨gs3 j, j * 2, none⟩ = some (.bool (decide (M3 j j < 0))) ∧ w'.cell? ⟨gs3 j, j * 2 + 1, none⟩ = some (.slice E1 p1 q1) ∧ w'.cell? ⟨gs3 a1, b1 * 2, none⟩ = some (.bool (decide (M3 a1 b1 < 0))) ∧ w'.cell? ⟨gs3 a1, b1 * 2 + 1, none⟩ = some (.slice E2 p2 q2) ∧ w'.cell? ⟨gs3 a1, j * 2, none⟩ = some (.bool (decide (M3 a1 j < 0))) ∧ w'.cell? ⟨gs3 a1, j * 2 + 1, none⟩ = some (.slice E3 p3 q3) ∧ w'.cell? ⟨gs3 j, b1 * 2, none⟩ = some (.bool (decide (M3 j b1 < 0))) ∧ w'.cell? ⟨gs3 j, b1 * 2 + 1, none⟩ = some (.slice E4 p4 q4))
                              (first | exact all_kept10 (ext_drew (Below.refl _ _)) C0.out | exact all_kept10 (ext_alloc (ext_drew (Below.refl _ _)) _) C0.out | exact all_kept10 B3.out C0.out | exact all_kept10 (ext_alloc B3.out _) C0.out | exact all_kept10 B4.out C0.out | exact all_kept10 (ext_alloc B4.out _) C0.out | exact all_kept10 B5.out C0.out | exact all_kept10 (ext_alloc B5.out _) C0.out | exact all_kept10 (ext_set (ext_set B5.out (by have := B5.out.size; have := B4.out.size; have := B3.out.size; (try simp only); omega) _) (by have := B5.out.size; have := B4.out.size; have := B3.out.size; (try simp only); omega) _) C0.out | exact C0.out)
                              (first
                                | (go_at_call_of 40 (Value.agg #[Value.bool (decide (M3 j j < 0)), Value.slice E1 p1 q1]); refine (Mul_big _ _ _ _ _ _ (X1.out.ext (by first | exact ext_drew (Below.refl _ _) | exact ext_alloc (ext_drew (Below.refl _ _)) _)) (X2.out.ext (by first | exact ext_drew (Below.refl _ _) | exact ext_alloc (ext_drew (Below.refl _ _)) _)) (HST.out.sm _ _ hlt2 hlt2) (HST.out.sm _ _ hlt3 hlt4)).mono ?_; rintro e w3 ⟨v, hv, rfl, hb⟩; obtain ⟨A3, l3, d3, rfl⟩ := hv.lit; have B3 := Lib.hid (ext_trans (show Below wr.heap.size wr _ by first | exact ext_drew (Below.refl _ _) | exact ext_alloc (ext_drew (Below.refl _ _)) _) hb); have Y3 := Lib.hid (hv.up2 (show Below w.heap.size w _ by first | exact ext_drew HD5.out.ext | exact ext_alloc (ext_drew HD5.out.ext) _)); (first | have N3 := Lib.hid (show Own w3 wr.heap.size _ _ from (Own.new wr.drew _ _).ext hb) | skip); clear hb hv)
                                | (go_at_call_of 40 (Value.agg #[Value.bool (decide (M3 a1 j < 0)), Value.slice E3 p3 q3]); refine (Mul_big _ _ _ _ _ _ (X3.out.ext (by first | exact B3.out | exact ext_alloc B3.out _)) (X4.out.ext (by first | exact B3.out | exact ext_alloc B3.out _)) (HST.out.sm _ _ hlt3 hlt2) (HST.out.sm _ _ hlt2 hlt4)).mono ?_; rintro e w4 ⟨v, hv, rfl, hb⟩; obtain ⟨A4, l4, d4, rfl⟩ := hv.lit; have Y4 := Lib.hid (hv.up2 (show Below w.heap.size w _ by first | exact ext_trans HD5.out.ext B3.out | exact ext_alloc (ext_trans HD5.out.ext B3.out) _)); have Z3 := Lib.hid (Y3.out.ext (ext_trans (show Below w3.heap.size w3 _ by first | exact Below.refl _ _ | exact ext_alloc (Below.refl _ _) _) hb)); have B4 := Lib.hid (ext_trans B3.out (ext_trans (show Below w3.heap.size w3 _ by first | exact Below.refl _ _ | exact ext_alloc (Below.refl _ _) _) hb)); (first | have N4 := Lib.hid (N3.out.ext hb) | have N4 := Lib.hid ((Own.new w3 _ _).ext hb) | skip); clear hb hv)
                                | (go_at_call 68; refine (Sub_big _ _ _ _ _ _ (Z3.out.ext (by first | exact Below.refl _ _ | exact ext_alloc (Below.refl _ _) _)) (Y4.out.ext (by first | exact Below.refl _ _ | exact ext_alloc (Below.refl _ _) _)) (HST.out.st _ _ ha1 hlt3 hb1 hlt4).1 (HST.out.st _ _ ha1 hlt3 hb1 hlt4).2.1).mono ?_; rintro e w5 ⟨v, hv, rfl, hb⟩; obtain ⟨A5, l5, d5, rfl⟩ := hv.lit; have Y5 := Lib.hid (hv.up2 (show Below w.heap.size w _ by first | exact ext_trans HD5.out.ext B4.out | exact ext_alloc (ext_trans HD5.out.ext B4.out) _)); have B5 := Lib.hid (ext_trans B4.out (ext_trans (show Below w4.heap.size w4 _ by first | exact Below.refl _ _ | exact ext_alloc (Below.refl _ _) _) hb)); (first | have N5 := Lib.hid (N4.out.ext hb) | have N5 := Lib.hid ((Own.new w4 _ _).ext hb) | skip); clear hb hv; (first | (have r0 := N5.out.cell 0; have r1 := N5.out.cell 1; have f0 := N5.out.free 0; have f1 := N5.out.free 1) | skip)))
                            all_goals (try go_wp2_with fail)
                            all_goals go_meet
                            all_goals (
                              have z3 := B3.out.size
                              have z4 := B4.out.size
                              have z5 := B5.out.size)
                            all_goals (first
                              | exact ⟨_, _, _, _, rfl, Lib.hid ⟨z5, HD5.out.fresh_alloc B5.out Y5.out⟩⟩
                              | exact ⟨_, _, _, _, rfl, Lib.hid ⟨by omega, HD5.out.fresh N5.out B5.out (by omega) Y5.out⟩⟩)
                          case rest =>
                            obtain ⟨X, A5, l5, d5, rfl, HC⟩ := hcut
                            clear cj ca x1 y1 x2 y2 x3 y3 x4 y4 X1 X2 X3 X4 C0
                            have hXg : gs3 a1 ≠ X := by
                              obtain ⟨us, -, h2, -⟩ := HD5.out.mx.rows a1 hlt3
                              have := h2.lt
                              have := HC.out.1
                              omega
                            have hTg : gs3 a1 ≠ w1.heap.size := by rw [← HT.out]; exact HC.out.2.1.gne a1 hlt3
                            have hGg : gs3 a1 ≠ w.heap.size + 1 := HC.out.2.1.mx.ne a1 hlt3
                            obtain ⟨z, hz⟩ : ∃ z, z = M3 j j * M3 a1 b1 - M3 a1 j * M3 j b1 := ⟨_, rfl⟩
                            rw [← hz] at HC
                            have HS5 := HST.out.st _ _ ha1 hlt3 hb1 hlt4
                            rw [← hz] at HS5
                            have HS6 := Lib.hid (And.intro HS5 hz)
                            clear HS5 hz
                            have ca := HC.out.2.1.mx.at_ hlt3 hlt3
                            have s1 : wc.cell? ⟨X, 0, none⟩ = some (.bool (decide (z < 0))) := HC.out.2.2.own.cell 0
                            have s2 : wc.cell? ⟨X, 1, none⟩ = some (.slice A5 l5 d5) := HC.out.2.2.own.cell 1
                            have s3 : wc.cell? ⟨w1.heap.size, 0, none⟩ = some (.bool (decide (last < 0))) := by rw [← HT.out]; exact HC.out.2.1.lst.cell 0
                            have s4 : wc.cell? ⟨w1.heap.size, 1, none⟩ = some (.slice B a c2) := by rw [← HT.out]; exact HC.out.2.1.lst.cell 1
                            have C1 := Lib.hid (And.intro ca (And.intro s1 (And.intro s2 (And.intro s3 s4))))
                            have NE := Lib.hid (And.intro hGg.symm (And.intro hXg.symm hTg.symm))
                            clear hXg hTg hGg
                            go_wp2
                            go_region_held3 (fun w' => w'.cell? ⟨w.heap.size + 1, a1, none⟩ = some (.slice (some ⟨gs3 a1, 0, none⟩) n n) ∧ w'.cell? ⟨X, 0, none⟩ = some (.bool (decide (z < 0))) ∧ w'.cell? ⟨X, 1, none⟩ = some (.slice A5 l5 d5) ∧ w'.cell? ⟨w1.heap.size, 0, none⟩ = some (.bool (decide (last < 0))) ∧ w'.cell? ⟨w1.heap.size, 1, none⟩ = some (.slice B a c2))
                              (first | exact all_far5 NE.out (all_kept5 B6.out C1.out) | exact all_kept5 B6.out C1.out | exact C1.out | exact all_kept5 (ext_drew (Below.refl _ _)) C1.out)
                              (first
                                | (go_at_call 69; refine (DivMod_big _ _ _ _ _ _ (HC.out.2.2.big.ext (ext_drew (Below.refl _ _))) (HC.out.2.1.big.ext (ext_drew (Below.refl _ _))) HS6.out.1.2.2.1 HST.out.sl HST.out.nz HS6.out.1.2.2.2).mono ?_; rintro e w6 ⟨v1, v2, ⟨hv, -⟩, rfl, hb⟩; obtain ⟨A6, l6, d6, rfl⟩ := hv.lit; have Y6 := Lib.hid (hv.up2 (ext_drew HC.out.2.1.ext)); have B6 := Lib.hid (ext_trans (show Below wc.heap.size wc _ from ext_drew (Below.refl _ _)) hb); have D6 := Lib.hid (HC.out.2.1.move B6.out); obtain ⟨E2, p2, q2, x2, y2, -⟩ := D6.out.mx.el hlt3 hlt4; have f1 := D6.out.mx.free hlt3 (b1 * 2); have f2 := D6.out.mx.free hlt3 (b1 * 2 + 1); clear hv hb))
                            go_wp2
                            go_roundw
                            case rel => exact ⟨b1 + 1, by omega, by omega, by go_num, Lib.hid (by rw [elmP_step _ _ _ _ _ ha1 hb1, ← HS6.out.2]; exact D6.out.store hlt3 hlt4 Y6.out)⟩
                            case measure => simp [intOf] <;> omega
                        · obtain rfl : b1 = n := by omega
                          go_wp2
                          go_roundw
                          case rel => exact ⟨a1 + 1, by omega, by omega, by go_num, Lib.hid (HD5.out.same fun i l hi hl => elmP_row _ _ _ _ _ hl)⟩
                          case measure => simp [intOf] <;> omega
                    · obtain rfl : a1 = n := by omega
                      have r1 := HD4.out.mx.at_ hlt2 hlt2
                      obtain ⟨E1, p1, q1, x1, y1, hx1⟩ := HD4.out.mx.el hlt2 hlt2
                      rw [elmP_l] at x1 hx1
                      have X1 := Lib.hid hx1
                      clear hx1
                      have s3 : wr.cell? ⟨w1.heap.size, 0, none⟩ = some (.bool (decide (last < 0))) := by rw [← HT.out]; exact HD4.out.lst.cell 0
                      have s4 : wr.cell? ⟨w1.heap.size, 1, none⟩ = some (.slice B a c2) := by rw [← HT.out]; exact HD4.out.lst.cell 1
                      have s5 : wr.frozen? ⟨w1.heap.size, 0, none⟩ = false := by rw [← HT.out]; exact HD4.out.lst.free 0
                      have s6 : wr.frozen? ⟨w1.heap.size, 1, none⟩ = false := by rw [← HT.out]; exact HD4.out.lst.free 1
                      have k5 : (0 : Int) ≤ (j : Int) := by omega
                      have k6 : (j : Int) < (a1 : Int) := by omega
                      go_wp2
                      go_roundw
                      case rel => exact ⟨j + 1, odd3, gs3, _, _, _, _, _, by omega, rfl, by go_num, Lib.hid (by rw [← HT.out]; exact (HD4.out.same fun i l hi hl => elmP_end _ _ _ _ hi).pivot X1.out), Lib.hid ⟨HST.out.ok, HST.out.eq⟩⟩
                      case measure => simp [intOf] <;> omega
            · obtain rfl : q = n := by omega
              have hz := stage_zero HE.out.2 hlt2 (by rw [← HF.out]; simp [firstRow])
              have r0 := HD2.out.rs.cell 0
              have r1 := HD2.out.rs.cell 1
              have f0 := HD2.out.rs.free 0
              have f1 := HD2.out.rs.free 1
              subst hz
              have t1 : ((q : Int) == (q : Int)) = true := by simp
              go_wp2
              refine bodyPost_ret (v := .agg #[.bool false, .slice none 0 0]) (by simp [results, Try.results91, go_sem, r0, r1]) rfl (HP.out _ _ ⟨_, Big.zero _ _, rfl, ?_⟩)
              exact ext_set (ext_set HD2.out.ext (by simp) _) (by simp) _
        · obtain rfl : j = n := by omega
          have hE := HE.out
          rw [Nat.sub_self, DetOk, detRun] at hE
          have HE1 := Lib.hid hE
          clear hE
          have s3 : wo.cell? ⟨w1.heap.size, 0, none⟩ = some (.bool (decide (last < 0))) := by rw [← HT.out]; exact HD.out.lst.cell 0
          have s4 : wo.cell? ⟨w1.heap.size, 1, none⟩ = some (.slice B a c2) := by rw [← HT.out]; exact HD.out.lst.cell 1
          cases odd
          · go_wp2_with fail
            with_reducible refine (Normalize_big _ _ _ _ HD.out.big HE1.out.1).mono ?_
            rintro e w2 ⟨v, hv, rfl, hb⟩
            obtain ⟨A6, l6, d6, rfl⟩ := hv.lit
            have Y6 := Lib.hid (hv.up2 HD.out.ext)
            have D6 := Lib.hid (HD.out.move hb)
            have r0 := D6.out.rs.cell 0
            have r1 := D6.out.rs.cell 1
            have f0 := D6.out.rs.free 0
            have f1 := D6.out.rs.free 1
            clear hv hb
            go_wp2
            refine bodyPost_ret (v := .agg #[.bool (decide (last < 0)), .slice A6 l6 d6]) (by simp [results, Try.results91, go_sem, r0, r1]) rfl (HP.out _ _ ⟨_, ?_, rfl, ?_⟩)
            · have he := HE1.out.2
              simp only [Bool.false_eq_true, if_false] at he
              rw [← he]
              exact set_big (set_big Y6.out r0 (fun x h => by cases h) _) (set_apart (by simp) r1) (fun x h => by cases h) _
            · exact ext_set (ext_set D6.out.ext (by simp) _) (by simp) _
          · go_wp2_with fail
            with_reducible refine (Neg_big _ _ _ _ HD.out.big HE1.out.1).mono ?_
            rintro e w2 ⟨v, hv, rfl, hb⟩
            obtain ⟨A6, l6, d6, rfl⟩ := hv.lit
            have Y6 := Lib.hid (hv.up2 HD.out.ext)
            have D6 := Lib.hid (HD.out.move hb)
            have r0 := D6.out.rs.cell 0
            have r1 := D6.out.rs.cell 1
            have f0 := D6.out.rs.free 0
            have f1 := D6.out.rs.free 1
            clear hv hb
            go_wp2
            refine bodyPost_ret (v := .agg #[.bool (decide (-last < 0)), .slice A6 l6 d6]) (by simp [results, Try.results91, go_sem, r0, r1]) rfl (HP.out _ _ ⟨_, ?_, rfl, ?_⟩)
            · have he := HE1.out.2
              simp only [if_true] at he
              rw [← he]
              exact set_big (set_big Y6.out r0 (fun x h => by cases h) _) (set_apart (by simp) r1) (fun x h => by cases h) _
            · exact ext_set (ext_set D6.out.ext (by simp) _) (by simp) _
end Go.Proofs.Ythibocafjkbeeaa
/-
  Elimination without fractions looks only at the entries of its own matrix: plain numbers. No condition.
-/
namespace Go.Proofs.Ythibocafjkbeeaa

theorem firstRow_same {M M' : Nat → Nat → Int} {n k : Nat} (h : ∀ i j, i < n → j < n → M i j = M' i j) (hk : k < n) : ∀ d p, p + d ≤ n → firstRow M k d p = firstRow M' k d p
  | 0, p, _ => rfl
  | d + 1, p, hd => by
    rw [firstRow, firstRow, h p k (by omega) hk, firstRow_same h hk d (p + 1) (by omega)]
theorem swp_same {M M' : Nat → Nat → Int} {n p k : Nat} (h : ∀ i j, i < n → j < n → M i j = M' i j) (hp : p < n) (hk : k < n) : ∀ i j, i < n → j < n → swp M p k i j = swp M' p k i j := fun i j hi hj => by
  unfold swp
  refine h _ _ ?_ hj
  split
  · exact hk
  · split
    · exact hp
    · exact hi
theorem elm_same {M M' : Nat → Nat → Int} {n k : Nat} {last : Int} (h : ∀ i j, i < n → j < n → M i j = M' i j) (hk : k < n) : ∀ i j, i < n → j < n → elm M k last i j = elm M' k last i j := fun i j hi hj => by
  unfold elm
  rw [h k k hk hk, h i j hi hj, h i k hi hk, h k j hk hj]
theorem stage_same {M M' : Nat → Nat → Int} {n k p : Nat} (h : ∀ i j, i < n → j < n → M i j = M' i j) (hk : k < n) (hp : p < n) : ∀ i j, i < n → j < n → (if p = k then M else swp M p k) i j = (if p = k then M' else swp M' p k) i j := fun i j hi hj => by
  split
  · exact h i j hi hj
  · exact swp_same h hp hk i j hi hj
theorem detRun_same {n : Nat} : ∀ (d k : Nat) (M M' : Nat → Nat → Int) (last : Int) (odd : Bool), k + d = n → (∀ i j, i < n → j < n → M i j = M' i j) → detRun d k M last odd = detRun d k M' last odd
  | 0, _, _, _, _, _, _, _ => rfl
  | d + 1, k, M, M', last, odd, hd, h => by
    have hf := firstRow_same h (show k < n by omega) (d + 1) k (by omega)
    rw [detRun, detRun]
    simp only [hf]
    have hr := firstRow_range M' k (d + 1) k
    split
    · rfl
    · rename_i hne
      have hs := stage_same (p := firstRow M' k (d + 1) k) h (show k < n by omega) (by omega)
      rw [hs k k (by omega) (by omega)]
      exact detRun_same d (k + 1) _ _ _ _ (by omega) (elm_same hs (by omega))
theorem DetOk_same {n : Nat} : ∀ (d k : Nat) (M M' : Nat → Nat → Int) (last : Int), k + d = n → (∀ i j, i < n → j < n → M i j = M' i j) → DetOk n d k M last → DetOk n d k M' last
  | 0, _, _, _, _, _, _, h => h
  | d + 1, k, M, M', last, hd, h, hok => by
    have hf := firstRow_same h (show k < n by omega) (d + 1) k (by omega)
    rw [DetOk] at hok ⊢
    obtain ⟨a1, a2, a3, a4⟩ := hok
    refine ⟨a1, a2, fun i j hi hj => by rw [← h i j hi hj]; exact a3 i j hi hj, fun hne => ?_⟩
    have hr := firstRow_range M k (d + 1) k
    have hs := stage_same (p := firstRow M k (d + 1) k) h (show k < n by omega) (by omega)
    obtain ⟨b1, b2⟩ := a4 (by rw [hf]; exact hne)
    rw [← hf]
    refine ⟨fun i j h1 h2 h3 h4 => ?_, ?_⟩
    · have := b1 i j h1 h2 h3 h4
      rw [← hs k k (by omega) (by omega), ← hs i j h2 h4, ← hs i k h2 (by omega), ← hs k j (by omega) h4]
      exact this
    · rw [← hs k k (by omega) (by omega)]
      exact DetOk_same d (k + 1) _ _ _ (by omega) (elm_same hs (by omega)) b2
end Go.Proofs.Ythibocafjkbeeaa
/-
  matrix.build with a function that holds three captured values: what it returns. Condition: what that function returns (HF), and sizes.
-/
namespace Go.Proofs.Ythibocafjkbeeaa
open Go.RowKit

set_option maxRecDepth 100000 in
set_option maxHeartbeats 1000000 in
theorem build_three (ok : Nat → Prop) (F : FuncId) (p1 p2 p3 : Value) (f : Nat → Nat → Int) (rows cols : Nat) (w : World) (hr : rows ≤ 65536) (hc : cols ≤ 65536) (hok : ∀ b, ok b → b < w.heap.size) (hF : ∀ args W, (callFunc F args).run Try.prog W = .ok (.enter F args) W)
    (HF : ∀ (i j : Nat) (W : World), i < rows → j < cols → Below w.heap.size w W → Calls Try.prog F #[.int .i64 (i : Int), .int .i64 (j : Int), p1, p2, p3] W fun e W' => ∃ v, Big W' (Up ok W.heap.size) v (f i j) ∧ e = .returned v ∧ Below W.heap.size W W') :
    Calls Try.prog 47 #[.int .i64 (rows : Int), .int .i64 (cols : Int), .func (.func F) #[] #[p1, p2, p3]] w fun e w' => ∃ A, Row (Kd.slice Kd.big) w' (Up ok w.heap.size) A (matOf rows cols f) ∧ e = .returned (.slice A rows rows) ∧ Below w.heap.size w w' := by
  refine veil fun R HP => ?_
  have H := Lib.hid HF
  clear HF
  have mk1 : ∀ W : World, (Instr.makeSlice 65 (.int .i64 (rows : Int)) (.int .i64 (rows : Int))).run Try.prog W = .ok (.slice (some ⟨W.heap.size, 0, none⟩) rows rows) (W.alloc (.cells (madeCells #[.slice none 0 0] rows) 89)) := fun W => by
    have := make_n (P := Try.prog) 65 89 (.slice none 0 0) 1 24 Try.underlying65 info_bigs rows (by omega) (by omega) W
    rw [Nat.mul_one] at this
    exact this
  have mk2 := fun W => make_n (P := Try.prog) 89 59 (.agg #[.bool false, .slice none 0 0]) 2 32 Try.underlying89 info_int cols (by omega) (by omega) W
  go_enter Try.func47, Try.ntmps47
  have HOK := Lib.hid hok
  clear hok
  go_wp2
  clear mk1
  go_loopw [14] (fun i w' => ∃ (k : Nat) (vs : List Value), k ≤ rows ∧ i = .int .i64 (k : Int) ∧ BuildO w w' ok rows cols f k vs) (fun i _ => rows - (intOf i).toNat)
  case atStart => exact ⟨0, _, by omega, rfl, BuildO.start w ok rows cols f⟩
  case round =>
    obtain ⟨k, vs, hk, rfl, hO⟩ := hrel
    have HO := Lib.hid hO
    obtain ⟨wo, rfl⟩ : ∃ wo : World, wo = wr := ⟨_, rfl⟩
    clear hO
    by_cases hlt : k < rows
    · have c1 : ∃ u, wo.cell? ⟨w.heap.size, k, none⟩ = some u := ⟨_, by rw [HO.out.own.cell, List.getElem?_eq_getElem (by have := HO.out.len; omega)]⟩
      obtain ⟨u0, c1⟩ := c1
      have f1 := HO.out.own.free k
      have hz := HO.out.own.lt
      go_wp2
      clear mk2 c1 f1
      have HI0 := Lib.hid (HO.out.inner hlt)
      obtain ⟨g, hg⟩ : ∃ g, g = wo.heap.size := ⟨_, rfl⟩
      have HG := Lib.hid hg
      clear hg
      go_loopw [27] (fun i w' => ∃ (j : Nat) (vs us : List Value), j ≤ cols ∧ i = .int .i64 (j : Int) ∧ BuildI w w' ok rows cols f k j g vs us) (fun i _ => cols - (intOf i).toNat)
      case atStart => exact ⟨0, _, _, by omega, rfl, by rw [HG.out]; exact HI0.out⟩
      case round =>
        obtain ⟨j, vs2, us2, hj, rfl, hI⟩ := hrel
        have HI := Lib.hid hI
        clear hI
        by_cases hlt2 : j < cols
        · have c1 : wr.cell? ⟨w.heap.size, k, none⟩ = some (.slice (some ⟨g, 0, none⟩) cols cols) := by rw [HI.out.own.cell]; exact HI.out.at_
          go_wp2
          go_region_held3 (fun w' => w'.cell? ⟨w.heap.size, k, none⟩ = some (.slice (some ⟨g, 0, none⟩) cols cols))
            (first | exact (set_far (by simp; omega) (set_far (by simp; omega) c2)) | exact c2 | exact c1)
            (first | (refine (H.out k j _ hlt hlt2 (ext_drew HI.out.ext)).mono ?_; rintro e w1 ⟨v, ⟨A1, l1, d1, rfl, hv⟩, rfl, hb⟩; have HV := Lib.hid (show Big w1 (Up ok wr.heap.size) (.agg #[.bool (decide (f k j < 0)), .slice A1 l1 d1]) (f k j) from ⟨A1, l1, d1, rfl, hv⟩); have HI1 := Lib.hid (HI.out.ext1 (w1 := w1) ⟨hb.os, hb.tape, hb.output, hb.size, hb.block⟩); have c2 := kept (w := wr) (w1 := w1) ⟨hb.os, hb.tape, hb.output, hb.size, hb.block⟩ c1; obtain ⟨x0, x1⟩ : ∃ u, w1.cell? ⟨g, j * 2, none⟩ = some u := ⟨_, by rw [HI1.out.uown.cell, List.getElem?_eq_getElem (by have := HI1.out.ulen; omega)]⟩; obtain ⟨y0, y1⟩ : ∃ u, w1.cell? ⟨g, j * 2 + 1, none⟩ = some u := ⟨_, by rw [HI1.out.uown.cell, List.getElem?_eq_getElem (by have := HI1.out.ulen; omega)]⟩; have f1 := HI1.out.uown.free (j * 2); have f2 := HI1.out.uown.free (j * 2 + 1); have hgne := HI.out.gne; clear hb hv))
          go_wp2
          go_roundw
          case rel => exact ⟨j + 1, vs2, _, by omega, by go_num, HI1.out.store HOK.out hlt2 HI.out.own.lt HI.out.uown.lt HV.out⟩
          case measure => simp [intOf] <;> omega
        · obtain rfl : j = cols := by omega
          go_wp2
          go_roundw
          case rel => exact ⟨k + 1, vs2, by omega, by go_num, HI.out.outer HOK.out hc⟩
          case measure => simp [intOf] <;> omega
    · obtain rfl : k = rows := by omega
      go_wp2
      exact HP.out _ _ ⟨_, HO.out.row hr, rfl, HO.out.ext⟩
end Go.Proofs.Ythibocafjkbeeaa
/-
  matrix.Minor at the first k rows and columns: what it returns. Condition: the matrix is square with at most 16 rows, and all numbers of the elimination are among those that are spoken of (DetOk).
-/
namespace Go.Proofs.Ythibocafjkbeeaa
open Go.RowKit

/-- The cells that matrix.Minor makes at its beginning. -/
structure MB (W : World) (s : Nat) (A B D : Option Addr) (n c k d d' : Nat) : Prop where
  a : Own W s 65 [.slice A n c]
  b : Own W (s + 1) 123 [.slice B k d]
  d : Own W (s + 1 + 1) 123 [.slice D k d']
  r : Own W (s + 1 + 1 + 1) 59 [.bool false, .slice none 0 0]
theorem MB.ext {W W' : World} {s : Nat} {A B D : Option Addr} {n c k d d' : Nat} (h : MB W s A B D n c k d d') (hb : Below W.heap.size W W') : MB W' s A B D n c k d d' := ⟨h.a.ext hb, h.b.ext hb, h.d.ext hb, h.r.ext hb⟩
theorem MB.new (w : World) (A B D : Option Addr) (n c k d d' : Nat) : MB ((((w.alloc (.cells #[.slice A n c] 65)).alloc (.cells #[.slice B k d] 123)).alloc (.cells #[.slice D k d'] 123)).alloc (.cells #[.bool false, .slice none 0 0] 59)) w.heap.size A B D n c k d d' := by
  have s1 : (w.alloc (.cells #[.slice A n c] 65)).heap.size = w.heap.size + 1 := by simp
  have s2 : ((w.alloc (.cells #[.slice A n c] 65)).alloc (.cells #[.slice B k d] 123)).heap.size = w.heap.size + 1 + 1 := by simp
  have s3 : (((w.alloc (.cells #[.slice A n c] 65)).alloc (.cells #[.slice B k d] 123)).alloc (.cells #[.slice D k d'] 123)).heap.size = w.heap.size + 1 + 1 + 1 := by simp
  refine ⟨(((Own.new w _ _).alloc _).alloc _).alloc _, ?_, ?_, ?_⟩
  · have := ((Own.new (w.alloc (.cells #[.slice A n c] 65)) 123 #[.slice B k d]).alloc (.cells #[.slice D k d'] 123)).alloc (.cells #[.bool false, .slice none 0 0] 59)
    rwa [s1] at this
  · have := (Own.new ((w.alloc (.cells #[.slice A n c] 65)).alloc (.cells #[.slice B k d] 123)) 123 #[.slice D k d']).alloc (.cells #[.bool false, .slice none 0 0] 59)
    rwa [s2] at this
  · have := Own.new (((w.alloc (.cells #[.slice A n c] 65)).alloc (.cells #[.slice B k d] 123)).alloc (.cells #[.slice D k d'] 123)) 59 #[.bool false, .slice none 0 0]
    rwa [s3] at this
theorem minor_enter : ∀ args W, (callFunc 92 args).run Try.prog W = .ok (.enter 92 args) W := fun args W => by rfl
/-- A square matrix of 1 to 16 rows. -/
structure Sq (m : List (List Int)) (n : Nat) : Prop where
  len : m.length = n
  pos : 1 ≤ n
  le : n ≤ 16
  row : ∀ i, i < n → (nth m i).length = n
theorem Sq.shp {m : List (List Int)} {n : Nat} (h : Sq m n) : shp m = true := by
  have h0 := h.row 0 h.pos
  have h1 := h.pos
  have h2 := h.le
  have h3 := h.len
  simp only [Go.Proofs.Ythibocafjkbeeaa.shp, decide_eq_true_eq]
  exact ⟨by omega, by omega, by omega, by omega, fun i hi => by rw [h.row i (by omega), h0]⟩
theorem nth_matOf {rows cols : Nat} {f : Nat → Nat → Int} {i j : Nat} (hi : i < rows) (hj : j < cols) : nth (nth (matOf rows cols f) i) j = f i j := by
  unfold matOf
  rw [nth_map_range _ _ _ hi, nth_map_range _ _ _ hj]
theorem Sq.mat {k : Nat} (h1 : 1 ≤ k) (h2 : k ≤ 16) (f : Nat → Nat → Int) : Sq (matOf k k f) k := by
  refine ⟨by simp [matOf], h1, h2, fun i hi => ?_⟩
  unfold matOf
  rw [nth_map_range _ _ _ hi]
  simp
set_option maxRecDepth 100000 in
set_option maxHeartbeats 1000000 in
theorem minor_any (ok : Nat → Prop) (A B D : Option Addr) (n c k d d' : Nat) (m : List (List Int)) (w : World) (hS : Sq m n) (h1 : 1 ≤ k) (hk : k ≤ n) (hdet : DetOk k k 0 (fun i j => nth (nth m i) j) 1)
    (h : Row Kd.big.slice w ok A m) (hB : Row Kd.i64 w ok B (iota k)) (hD : Row Kd.i64 w ok D (iota k)) :
    Calls Try.prog 82 #[.slice A n c, .slice B k d, .slice D k d'] w fun e w' => ∃ v, Big w' (Up ok w.heap.size) v (detRun k 0 (fun i j => nth (nth m i) j) 1 false) ∧ e = .returned (.tuple #[v, .bool true]) ∧ Below w.heap.size w w' := by
  refine veil fun R HP => ?_
  have HR := Lib.hid h
  have HB := Lib.hid hB
  have HD := Lib.hid hD
  have HS := Lib.hid hS
  have HT := Lib.hid hdet
  have X0 := Lib.hid (MB.new w A B D n c k d d')
  have B0 := Lib.hid (ext_alloc (ext_alloc (ext_alloc (ext_alloc (Below.refl w.heap.size w) (.cells #[.slice A n c] 65)) (.cells #[.slice B k d] 123)) (.cells #[.slice D k d'] 123)) (.cells #[.bool false, .slice none 0 0] 59))
  clear h hB hD hS hdet
  go_enter Try.func82, Try.ntmps82
  go_wp2_with fail
  with_reducible refine (shape_bigs Kd.big ok A n c m _ HS.out.len.symm (HR.out.ext B0.out)).mono ?_
  rintro e w1 ⟨rfl, hw⟩
  have B1 := Lib.hid (ext_trans B0.out (drawn_ext hw))
  have X1 := Lib.hid (X0.out.ext (drawn_ext hw))
  have hrw : rws m = n := by rw [rws, HS.out.shp, if_pos rfl]; exact HS.out.len
  have hcl : cls m = n := by rw [cls, HS.out.shp, if_pos rfl]; exact HS.out.row 0 HS.out.pos
  rw [hrw, hcl, HS.out.shp]
  clear hrw hcl hw X0
  have c1 := X1.out.a.cell 0
  have c2 := X1.out.b.cell 0
  have c3 := X1.out.d.cell 0
  have t1 : ((k : Int) != (k : Int)) = false := by simp
  go_wp2_with fail
  with_reducible refine (ascending_iota ok B d k n _ (by have := HS.out.le; omega) (HB.out.ext B1.out) (by omega) hk (by have := HS.out.le; omega)).mono ?_
  rintro e w2 ⟨rfl, rfl⟩
  go_wp2_with fail
  with_reducible refine (ascending_iota ok D d' k n _ (by have := HS.out.le; omega) (HD.out.ext B1.out) (by omega) hk (by have := HS.out.le; omega)).mono ?_
  rintro e w2 ⟨rfl, rfl⟩
  go_wp2_with fail
  refine (build_three (fun b => ok b ∧ b < w1.heap.size) _ _ _ _ (fun i j => nth (nth m i) j) k k w1 (by have := HS.out.le; omega) (by have := HS.out.le; omega) (fun b hb => hb.2) minor_enter (fun i j W hi hj hb => minor_one _ _ _ _ A B n c k d D d' m i j W HS.out.len.symm (kept hb c1) (kept hb c2) (kept hb c3) (((HR.out.ext B1.out).weak fun b h hl => ⟨h, hl⟩).ext hb) (((HB.out.ext B1.out).weak fun b h hl => ⟨h, hl⟩).ext hb) (((HD.out.ext B1.out).weak fun b h hl => ⟨h, hl⟩).ext hb) hi hj (by rw [HS.out.len]; exact hk) (fun i hi => by rw [HS.out.row i (by rw [← HS.out.len]; exact hi)]; exact hk))).mono ?_
  rintro e w2 ⟨A2, hr2, rfl, hb⟩
  have B2 := Lib.hid (ext_trans B1.out hb)
  have X2 := Lib.hid (X1.out.ext hb)
  have Q2 := Lib.hid (show Row (Kd.slice Kd.big) w2 (Up ok w.heap.size) A2 (matOf k k fun i j => nth (nth m i) j) from hr2.weak fun b h _ => h.elim (fun h => .inl h.1) fun h => .inr (Nat.le_trans B1.out.size h))
  clear hr2 hb c1 c2 c3
  have hE : ∀ i j, i < k → j < k → nth (nth m i) j = nth (nth (matOf k k fun i j => nth (nth m i) j) i) j := fun i j hi hj => by rw [nth_matOf hi hj]
  have HE := Lib.hid hE
  clear hE
  have SQ := Lib.hid (Sq.mat h1 (Nat.le_trans hk HS.out.le) fun i j => nth (nth m i) j)
  go_wp2_with fail
  with_reducible refine (det_any (Up ok w.heap.size) A2 k k _ _ SQ.out.len.symm h1 SQ.out.le SQ.out.row (DetOk_same k 0 _ _ 1 (by omega) HE.out HT.out) Q2.out).mono ?_
  rintro e w3 ⟨v, hv, rfl, hb⟩
  rw [← detRun_same k 0 _ _ 1 false (by omega) HE.out] at hv
  obtain ⟨A6, l6, d6, rfl⟩ := hv.lit
  have Y6 := Lib.hid (hv.up2 B2.out)
  have B3 := Lib.hid (ext_trans B2.out hb)
  have X3 := Lib.hid (X2.out.ext hb)
  clear hv hb
  have r0 := X3.out.r.cell 0
  have r1 := X3.out.r.cell 1
  have f0 := X3.out.r.free 0
  have f1 := X3.out.r.free 1
  go_wp2
  refine bodyPost_ret (v := .tuple #[.agg #[.bool (decide (detRun k 0 (fun i j => nth (nth m i) j) 1 false < 0)), .slice A6 l6 d6], .bool true]) (by simp [results, Try.results82, go_sem, r0, r1]) rfl (HP.out _ _ ⟨_, ?_, rfl, ?_⟩)
  · exact set_big (set_big Y6.out r0 (fun x h => by cases h) _) (set_apart (by simp) r1) (fun x h => by cases h) _
  · exact ext_set (ext_set B3.out (by simp; omega) _) (by simp; omega) _
end Go.Proofs.Ythibocafjkbeeaa
/-
  bareiss.square and bareiss.Leading: what they return. Condition: the matrix is square with at most 16 rows, and all numbers of the eliminations are among those that are spoken of (DetOk).
-/
namespace Go.Proofs.Ythibocafjkbeeaa
open Go.RowKit

set_option maxRecDepth 100000 in
theorem square_any {α : Type} (k : Kd α) (ok : Nat → Prop) (A : Option Addr) (n c : Nat) (m : List (List α)) (w : World) (hn : n = m.length) (h : Row k.slice w ok A m) :
    Calls Try.prog 51 #[.slice A n c] w fun e w' => e = .returned (.tuple #[.int .i64 (rws m : Nat), .bool (shp m && decide (rws m = cls m))]) ∧ Drawn w w' := by
  refine veil fun R HP => ?_
  have HR := Lib.hid h
  have HN := Lib.hid hn
  clear h hn
  go_enter Try.func51, Try.ntmps51
  go_wp2_with fail
  with_reducible refine (Shape_any k ok A n c m _ HN.out HR.out).mono ?_
  rintro e w1 ⟨rfl, hw⟩
  have HW := Lib.hid hw
  clear hw
  rcases Bool.eq_false_or_eq_true (shp m) with hs | hs
  · rw [hs, Bool.true_and] at HP
    rw [hs]
    have t1 : ((rws m : Int) == (cls m : Int)) = decide (rws m = cls m) := by
      by_cases h : rws m = cls m
      · simp [h]
      · simp [h]; omega
    go_wp2
    exact HP.out _ _ ⟨rfl, HW.out⟩
  · rw [hs, Bool.false_and] at HP
    rw [hs]
    go_wp2
    exact HP.out _ _ ⟨rfl, HW.out⟩
theorem Sq.rws {m : List (List Int)} {n : Nat} (h : Sq m n) : rws m = n := by rw [Go.Proofs.Ythibocafjkbeeaa.rws, h.shp, if_pos rfl]; exact h.len
theorem Sq.cls {m : List (List Int)} {n : Nat} (h : Sq m n) : cls m = n := by rw [Go.Proofs.Ythibocafjkbeeaa.cls, h.shp, if_pos rfl]; exact h.row 0 h.pos
/-- The leading minors, by elimination. -/
def lead (m : List (List Int)) (n : Nat) : List Int := (List.range n).map fun i => detRun (i + 1) 0 (fun i j => nth (nth m i) j) 1 false
theorem lead_step (m : List (List Int)) (n : Nat) : lead m (n + 1) = lead m n ++ [detRun (n + 1) 0 (fun i j => nth (nth m i) j) 1 false] := by simp [lead, List.range_succ]
theorem lead_length (m : List (List Int)) (n : Nat) : (lead m n).length = n := by simp [lead]
/-- The blocks that a result's row may meet. -/
def Old (w : World) (ok : Nat → Prop) : Nat → Prop := fun b => ok b ∧ b < w.heap.size
theorem fresh_big {w w1 w3 : World} {ok okk : Nat → Prop} {T : TypeId} {v u : Value} {xs : List Int} {z : Int} (HO : Grow Kd.big w1 w.heap.size T okk v xs) (hb : w.heap.size ≤ w1.heap.size) (hz : Big w3 (Up (Old w ok) w1.heap.size) u z) : Big w3 (fun b => Up (Old w ok) w.heap.size b ∧ v.ownBlock ≠ some b) u z := by
  refine hz.weak fun b h _ => ?_
  rcases h with h | h
  · exact ⟨.inl h, fun e => by have := (HO.lt b e).1; have := h.2; omega⟩
  · exact ⟨.inr (by omega), fun e => by have := (HO.lt b e).2; omega⟩
theorem two_one (b : Bool) (A : Option Addr) (l d : Nat) : ∀ u ∈ [Value.bool b, .slice A l d], u.oneCell' = true := by
  intro u hu
  rcases List.mem_cons.1 hu with rfl | hu
  · rfl
  · rcases List.mem_cons.1 hu with rfl | hu
    · rfl
    · cases hu
theorem two_cells (W : World) (x y : Value) (T : TypeId) {s : Nat} (hs : W.heap.size = s) : ∀ j u, [x, y][j]? = some u → (W.alloc (.cells #[x, y] T)).cell? ((⟨s, 0, none⟩ : Addr).add j) = some u := by
  subst hs
  intro j u hj
  have h := Own.new W T #[x, y]
  match j, hj with
  | 0, hj => exact (h.cell 0).trans hj
  | 1, hj => exact (h.cell 1).trans hj
  | j + 2, hj => simp at hj
theorem Big.up2' {w' : World} {ok : Nat → Prop} {B C : Nat} {v : Value} {z : Int} (h : Big w' (Up (Up ok B) C) v z) (hb : B ≤ C) : Big w' (Up ok B) v z := h.weak fun b hb' _ => by
  rcases hb' with (h | h) | h
  · exact .inl h
  · exact .inr h
  · exact .inr (by omega)
structure LD (w w' : World) (ok : Nat → Prop) (v : Value) (xs : List Int) : Prop where
  grow : Grow Kd.big w' w.heap.size 59 (Up (Old w ok) w.heap.size) v xs
  ext : Below w.heap.size w w'
theorem LD.move {w w1 w2 : World} {ok : Nat → Prop} {v : Value} {xs : List Int} (h : LD w w1 ok v xs) (hb : Below w1.heap.size w1 w2) : LD w w2 ok v xs := ⟨h.grow.ext hb, ext_trans h.ext hb⟩
theorem LD.push {w w1 w2 : World} {ok : Nat → Prop} {v v' : Value} {xs ys : List Int} (h : LD w w1 ok v xs) (hg : Grow Kd.big w2 w.heap.size 59 (Up (Old w ok) w.heap.size) v' ys) (hr : w1.grownBy w2 v.ownBlock) : LD w w2 ok v' ys :=
  ⟨hg, ext_grown h.ext hr fun k e => (h.grow.lt k e).1⟩
theorem LD.row {w w1 : World} {ok : Nat → Prop} {v : Value} {xs : List Int} (h : LD w w1 ok v xs) : ∃ A c, v = .slice A xs.length c ∧ xs.length ≤ c ∧ c ≤ 9223372036854775807 ∧ Row Kd.big w1 (Up ok w.heap.size) A xs := by
  obtain ⟨A, c, e, h1, h2, h3⟩ := h.grow.row fun g hg => .inr hg
  exact ⟨A, c, e, h1, h2, h3.weak fun b hb _ => hb.elim (fun h => .inl h.1) .inr⟩
set_option maxRecDepth 100000 in
set_option maxHeartbeats 1000000 in
theorem Leading_any (ok : Nat → Prop) (A : Option Addr) (n c : Nat) (m : List (List Int)) (w : World) (hS : Sq m n) (hdet : ∀ k, 1 ≤ k → k ≤ n → DetOk k k 0 (fun i j => nth (nth m i) j) 1) (h : Row Kd.big.slice w ok A m) :
    Calls Try.prog 65 #[.slice A n c] w fun e w' => ∃ A2 c2, (n ≤ c2 ∧ c2 ≤ 9223372036854775807 ∧ Row Kd.big w' (Up ok w.heap.size) A2 (lead m n)) ∧ e = .returned (.tuple #[.slice A2 n c2, .bool true]) ∧ Below w.heap.size w w' := by
  refine veil fun R HP => ?_
  have HR := Lib.hid (h.weak (ok' := Old w ok) fun b h1 h2 => ⟨h1, h2⟩)
  have HS := Lib.hid hS
  have HT := Lib.hid hdet
  clear h hS hdet
  go_enter Try.func65, Try.ntmps65
  go_wp2_with fail
  with_reducible refine (square_any Kd.big (Old w ok) A n c m _ HS.out.len.symm HR.out).mono ?_
  rintro e w1 ⟨rfl, hw⟩
  rw [HS.out.rws, HS.out.cls, HS.out.shp]
  have B1 := Lib.hid (drawn_ext hw)
  have t1 : (true && decide (n = n)) = true := by simp
  rw [t1]
  clear hw t1
  go_wp2
  go_loopw [6, 7] (fun v i w' => ∃ k : Nat, k ≤ n ∧ i = .int .i64 ((k : Int) + 1) ∧ Hid (LD w w' ok v (lead m k))) (fun _ i _ => n + 1 - (intOf i).toNat)
  case atStart => exact ⟨0, by omega, by go_num, Lib.hid ⟨Grow.nil _ _ _ _, B1.out⟩⟩
  case round =>
    obtain ⟨k, hk, rfl, HL⟩ := hrel
    by_cases hlt : k < n
    · have t1 : (k : Int) + 1 ≤ (n : Int) := by omega
      have UP := fun W : World => by
        have := upTo_any (Old w ok) (k + 1) W (by have := HS.out.le; omega)
        rwa [show ((k + 1 : Nat) : Int) = (k : Int) + 1 from by omega] at this
      go_wp2_with fail
      with_reducible refine (UP _).mono ?_
      rintro e w2 ⟨A2, hA2, rfl, hb2⟩
      have L2 := Lib.hid (HL.out.move hb2)
      have B2 := Lib.hid hb2
      have R2 := Lib.hid hA2
      clear hb2 hA2
      go_wp2_with fail
      with_reducible refine (UP _).mono ?_
      rintro e w3 ⟨A3, hA3, rfl, hb3⟩
      have L3 := Lib.hid (L2.out.move hb3)
      have R3 := Lib.hid (hA3.weak (ok' := Up (Old w ok) wr.heap.size) fun b h _ => h.elim .inl fun h => .inr (Nat.le_trans B2.out.size h))
      have Q2 := Lib.hid (R2.out.ext hb3)
      have B3 := Lib.hid (ext_trans B2.out hb3)
      clear hb3 hA3
      go_wp2_with fail
      have M3 := Lib.hid (((HR.out.ext L3.out.ext).weak (ok' := Up (Old w ok) wr.heap.size) fun b h _ => .inl h))
      with_reducible refine (minor_any (Up (Old w ok) wr.heap.size) A A2 A3 n c (k + 1) (k + 1) (k + 1) m _ HS.out (by omega) (by omega) (HT.out (k + 1) (by omega) (by omega)) M3.out Q2.out R3.out).mono ?_
      rintro e w4 ⟨v, hv, rfl, hb⟩
      obtain ⟨A6, l6, d6, rfl⟩ := hv.lit
      have Y4 := Lib.hid (hv.up2' B3.out.size)
      have L4 := Lib.hid (L3.out.move hb)
      have B4 := Lib.hid (ext_trans B3.out hb)
      obtain ⟨z, hz⟩ : ∃ z, z = detRun (k + 1) 0 (fun i j => nth (nth m i) j) 1 false := ⟨_, rfl⟩
      rw [← hz] at Y4
      have HZ := Lib.hid hz
      rw [← hz]
      have Y5 := Lib.hid (fresh_big (w := w) HL.out.grow HL.out.ext.size Y4.out)
      have o1 := Lib.hid (two_cells (w4.alloc (.cells #[.bool (decide (z < 0)), .slice A6 l6 d6] 59)) (.bool (decide (z < 0))) (.slice A6 l6 d6) 59 (s := w4.heap.size + 1) (by simp))
      clear hv hb M3 Q2 R3 R2 UP hz
      have X5 := Lib.hid (L4.out.move (ext_alloc (ext_alloc (Below.refl _ _) (.cells #[.bool (decide (z < 0)), .slice A6 l6 d6] 59)) (.cells #[.bool (decide (z < 0)), .slice A6 l6 d6] 59)))
      have Y6 := Lib.hid (Y5.out.ext (ext_alloc (ext_alloc (Below.refl _ _) (.cells #[.bool (decide (z < 0)), .slice A6 l6 d6] 59)) (.cells #[.bool (decide (z < 0)), .slice A6 l6 d6] 59)))
      have hl16 := HS.out.le
      go_wp2_with (at_builtin; go_loud (refine wpList_push (k := Kd.big) rfl (.tmp 31) (.tmp 33) 89 rfl (.agg #[.bool false, .slice none 0 0]) 32 Try.underlying89 info_int rfl (by decide) rfl X5.out.grow z [.bool (decide (z < 0)), .slice A6 l6 d6] Y6.out.K ⟨w4.heap.size + 1, 0, none⟩ 1 rfl o1.out (two_one _ _ _ _) (by rw [lead_length]; omega) (by rw [lead_length]; omega) X5.out.ext.size ?_); intro v' w5 hg5 hr5 hv5)
      go_roundw
      case rel => exact ⟨k + 1, by omega, by go_num, Lib.hid (X5.out.push (by rw [lead_step, ← HZ.out]; exact hg5) hr5)⟩
      case measure => simp [intOf] <;> omega
    · obtain rfl : k = n := by omega
      have t1 : ¬((k : Int) + 1 ≤ (k : Int)) := by omega
      obtain ⟨A9, c9, rfl, e1, e2, e3⟩ := HL.out.row
      rw [lead_length] at e1 HL
      have Y9 := Lib.hid (And.intro e1 (And.intro e2 e3))
      rw [lead_length]
      clear e1 e2 e3
      go_wp2
      exact HP.out _ _ ⟨A9, c9, Y9.out, rfl, HL.out.ext⟩
end Go.Proofs.Ythibocafjkbeeaa
/-
  A list that the call itself grows by append: what it holds, and how that lives on. No condition: plain definitions and theorems.
-/
namespace Go.Proofs.Ythibocafjkbeeaa
open Go.RowKit

structure LG {α : Type} (k : Kd α) (T : TypeId) (w w' : World) (okk : Nat → Prop) (v : Value) (xs : List α) : Prop where
  grow : Grow k w' w.heap.size T (Up okk w.heap.size) v xs
  ext : Below w.heap.size w w'
section
variable {α : Type} {k : Kd α} {T : TypeId} {w w1 w2 w3 : World} {okk : Nat → Prop} {v v' u : Value} {xs ys : List α}
theorem LG.nil (hb : Below w.heap.size w w1) : LG k T w w1 okk (.slice none 0 0) ([] : List α) := ⟨Grow.nil _ _ _ _, hb⟩
theorem LG.move (h : LG k T w w1 okk v xs) (hb : Below w1.heap.size w1 w2) : LG k T w w2 okk v xs := ⟨h.grow.ext hb, ext_trans h.ext hb⟩
theorem LG.push (h : LG k T w w1 okk v xs) (hg : Grow k w2 w.heap.size T (Up okk w.heap.size) v' ys) (hr : w1.grownBy w2 v.ownBlock) : LG k T w w2 okk v' ys :=
  ⟨hg, ext_grown h.ext hr fun k e => (h.grow.lt k e).1⟩
theorem LG.row (h : LG k T w w1 okk v xs) : ∃ A c, v = .slice A xs.length c ∧ xs.length ≤ c ∧ c ≤ 9223372036854775807 ∧ Row k w1 (Up okk w.heap.size) A xs := h.grow.row fun g hg => .inr hg
theorem LG.fresh (h : LG k T w w1 okk v xs) (hk : ∀ b, okk b → b < w.heap.size) {β : Type} {j : Kd β} {y : β} {cs : List Value} (hz : j.K w3 (Up okk w1.heap.size) y cs) : j.K w3 (fun b => Up okk w.heap.size b ∧ v.ownBlock ≠ some b) y cs := by
  refine j.weak hz fun b hb _ => ?_
  have hs := h.ext.size
  rcases hb with hb | hb
  · exact ⟨.inl hb, fun e => by have := (h.grow.lt b e).1; have := hk b hb; omega⟩
  · exact ⟨.inr (by omega), fun e => by have := (h.grow.lt b e).2; omega⟩
end
theorem one_cell (W : World) (x : Value) (T : TypeId) {s : Nat} (hs : W.heap.size = s) : ∀ j u, [x][j]? = some u → (W.alloc (.cells #[x] T)).cell? ((⟨s, 0, none⟩ : Addr).add j) = some u := by
  subst hs
  intro j u hj
  have h := Own.new W T #[x]
  match j, hj with
  | 0, hj => exact (h.cell 0).trans hj
  | j + 1, hj => simp at hj
theorem one_one (A : Option Addr) (l d : Nat) : ∀ u ∈ [Value.slice A l d], u.oneCell' = true := by
  intro u hu
  rcases List.mem_cons.1 hu with rfl | hu
  · rfl
  · cases hu
/-- A slice of a row's values, as an element. -/
theorem slice_K {α : Type} {k : Kd α} {w : World} {ok : Nat → Prop} {A : Option Addr} {n c : Nat} {xs : List α} (hn : n = xs.length) (h1 : n ≤ c) (h2 : c ≤ 9223372036854775807) (h : Row k w ok A xs) : k.slice.K w ok xs [.slice A n c] := by
  subst hn
  exact ⟨A, c, rfl, h1, h2, h⟩
theorem take_step {α : Type} [Inhabited α] (xs : List α) (k : Nat) (h : k < xs.length) : xs.take (k + 1) = xs.take k ++ [nth xs k] := by
  rw [nth_eq xs k h]; exact (List.take_append_getElem h).symm
end Go.Proofs.Ythibocafjkbeeaa
/-
  bareiss.normal: what it returns. Condition: at most 16 rows of at most 16 numbers, all of them among those that are spoken of.
-/
namespace Go.Proofs.Ythibocafjkbeeaa
open Go.RowKit

set_option maxRecDepth 100000 in
set_option maxHeartbeats 1000000 in
theorem normal_any (ok : Nat → Prop) (A : Option Addr) (n c : Nat) (m : List (List Int)) (w : World) (hn : n = m.length) (h16 : n ≤ 16) (hr : ∀ i, i < n → (nth m i).length ≤ 16) (hsm : ∀ i j, i < n → j < (nth m i).length → Sm (nth (nth m i) j)) (h : Row Kd.big.slice w ok A m) :
    Calls Try.prog 52 #[.slice A n c] w fun e w' => ∃ A2 c2, (n ≤ c2 ∧ c2 ≤ 9223372036854775807 ∧ Row Kd.big.slice w' (Up ok w.heap.size) A2 m) ∧ e = .returned (.slice A2 n c2) ∧ Below w.heap.size w w' := by
  refine veil fun R HP => ?_
  have HR := Lib.hid (h.weak (ok' := Old w ok) fun b h1 h2 => ⟨h1, h2⟩)
  have HN := Lib.hid hn
  have HL := Lib.hid hr
  have HM := Lib.hid hsm
  clear h hn hr hsm
  go_enter Try.func52, Try.ntmps52
  go_wp2
  go_loopw [3, 11] (fun v i w' => ∃ k : Nat, k ≤ n ∧ i = .int .i64 (k : Int) ∧ Hid (LG Kd.big.slice 89 w w' (Old w ok) v (m.take k))) (fun _ i _ => n - (intOf i).toNat)
  case atStart => exact ⟨0, by omega, by go_num, Lib.hid (LG.nil (Below.refl _ _))⟩
  case round =>
    obtain ⟨k, hk, rfl, HG⟩ := hrel
    obtain ⟨wo, rfl⟩ : ∃ wo : World, wo = wr := ⟨_, rfl⟩
    by_cases hlt : k < n
    · obtain ⟨ad, B, e, rfl, d1, hd, -, hB⟩ := (HR.out.ext HG.out.ext).sub (i := k) (by have := HN.out; omega)
      have HB := Lib.hid hB
      obtain ⟨q, hq⟩ : ∃ q, q = (nth m k).length := ⟨_, rfl⟩
      rw [← hq] at d1 hd
      have HQ := Lib.hid hq
      have i1 : (0 : Int) ≤ (k : Int) := by omega
      have i2 : (k : Int) < (n : Int) := by omega
      clear hB hq
      go_wp2
      go_loopw [6, 17] (fun v i w' => ∃ j : Nat, j ≤ q ∧ i = .int .i64 (j : Int) ∧ Hid (LG Kd.big 59 wo w' (Old w ok) v ((nth m k).take j))) (fun _ i _ => q - (intOf i).toNat)
      case atStart => exact ⟨0, by omega, by go_num, Lib.hid (LG.nil (Below.refl _ _))⟩
      case round =>
        obtain ⟨j, hj, rfl, HI⟩ := hrel
        by_cases hlt2 : j < q
        · obtain ⟨bd, E2, m2, e2, rfl, c2, c3, hv⟩ := (HB.out.ext HI.out.ext).bigAt (i := j) (by have := HQ.out; omega)
          have HV := Lib.hid hv
          have i3 : (0 : Int) ≤ (j : Int) := by omega
          have i4 : (j : Int) < (q : Int) := by omega
          obtain ⟨x, hx⟩ : ∃ x, x = nth (nth m k) j := ⟨_, rfl⟩
          have HX := Lib.hid hx
          rw [← hx] at HV c2
          have hs := HM.out k j hlt (by rw [← HQ.out]; exact hlt2)
          rw [← hx] at hs
          have HSM := Lib.hid hs
          clear hv hs hx
          have HI1 := Lib.hid (HI.out.move (ext_alloc (Below.refl _ _) (.cells #[.bool (decide (x < 0)), .slice E2 m2 e2] 59)))
          have hl16 := HL.out k hlt
          rw [← HQ.out] at hl16
          go_wp2_with fail
          with_reducible refine (Normalize_big _ _ _ _ (HV.out.ext (ext_alloc (Below.refl _ _) _)) HSM.out).mono ?_
          rintro e w2 ⟨v, hv, rfl, hb⟩
          obtain ⟨A6, l6, d6, rfl⟩ := hv.lit
          have X5 := Lib.hid ((HI1.out.move hb).move (ext_alloc (Below.refl _ _) (.cells #[.bool (decide (x < 0)), .slice A6 l6 d6] 59)))
          have Y6 := Lib.hid (HI1.out.fresh (fun b h => Nat.lt_of_lt_of_le h.2 HG.out.ext.size) (hv.ext (ext_alloc (Below.refl _ _) (.cells #[.bool (decide (x < 0)), .slice A6 l6 d6] 59))).K)
          have o1 := Lib.hid (two_cells w2 (.bool (decide (x < 0))) (.slice A6 l6 d6) 59 rfl)
          clear hv hb c2 c3
          have hlen : ((nth m k).take j).length = j := by rw [List.length_take, ← HQ.out]; omega
          have HLEN := Lib.hid hlen
          clear hlen
          go_wp2_with (at_builtin; refine wpList_push (k := Kd.big) rfl (.tmp 21) (.tmp 24) 89 rfl (.agg #[.bool false, .slice none 0 0]) 32 Try.underlying89 info_int rfl (by decide) rfl X5.out.grow x [.bool (decide (x < 0)), .slice A6 l6 d6] Y6.out ⟨w2.heap.size, 0, none⟩ 1 rfl o1.out (two_one _ _ _ _) (by rw [HLEN.out]; omega) (by rw [HLEN.out]; omega) X5.out.ext.size ?_; intro v' w5 hg5 hr5 hv5)
          go_roundw
          case rel => exact ⟨j + 1, by omega, by go_num, Lib.hid (X5.out.push (by rw [take_step _ _ (by rw [← HQ.out]; exact hlt2), ← HX.out]; exact hg5) hr5)⟩
          case measure => simp [intOf] <;> omega
        · obtain rfl : j = q := by omega
          rw [HQ.out, List.take_length] at HI
          obtain ⟨A9, c9, rfl, f1, f2, f3⟩ := HI.out.row
          have HG1 := Lib.hid ((HG.out.move HI.out.ext).move (ext_alloc (Below.refl _ _) (.cells #[.slice A9 (nth m k).length c9] 89)))
          have Y6 := Lib.hid (HG.out.fresh (fun b h => h.2) (slice_K rfl f1 f2 (f3.ext (ext_alloc (Below.refl _ _) (.cells #[.slice A9 (nth m k).length c9] 89)))))
          have o1 := Lib.hid (one_cell wr (.slice A9 (nth m k).length c9) 89 rfl)
          have hlen : (m.take k).length = k := by rw [List.length_take, ← HN.out]; omega
          have HLEN := Lib.hid hlen
          clear hlen f1 f2 f3
          go_wp2_with (at_builtin; refine wpList_push (k := Kd.big.slice) rfl (.tmp 27) (.tmp 29) 65 rfl (.slice none 0 0) 24 Try.underlying65 info_bigs rfl (by decide) rfl HG1.out.grow (nth m k) [.slice A9 (nth m k).length c9] Y6.out ⟨wr.heap.size, 0, none⟩ 1 rfl o1.out (one_one _ _ _) (by rw [HLEN.out]; omega) (by rw [HLEN.out]; omega) HG1.out.ext.size ?_; intro v' w5 hg5 hr5 hv5)
          go_roundw
          case rel => exact ⟨k + 1, by omega, by go_num, Lib.hid (HG1.out.push (by rw [take_step _ _ (by rw [← HN.out]; exact hlt)]; exact hg5) hr5)⟩
          case measure => simp [intOf] <;> omega
    · obtain rfl : k = n := by omega
      rw [HN.out, List.take_length] at HG
      obtain ⟨A9, c9, rfl, e1, e2, e3⟩ := HG.out.row
      rw [← HN.out] at e1 HG
      have Y9 := Lib.hid (And.intro e1 (And.intro e2 (e3.weak (ok' := Up ok w.heap.size) fun b hb _ => hb.elim (fun h => .inl h.1) .inr)))
      have EX := Lib.hid HG.out.ext
      rw [← HN.out]
      clear e1 e2 e3
      go_wp2
      exact HP.out _ _ ⟨A9, c9, Y9.out, rfl, EX.out⟩
end Go.Proofs.Ythibocafjkbeeaa
/-
  bareiss.within: what it returns. Condition: a square matrix of 2 to 16 rows.
-/
namespace Go.Proofs.Ythibocafjkbeeaa
open Go.RowKit

/-- The matrix without its first row and column. -/
def inn (m : List (List Int)) (s : Nat) : List (List Int) := (List.range s).map fun i => (nth m (i + 1)).drop 1
theorem inn_step (m : List (List Int)) (s : Nat) : inn m (s + 1) = inn m s ++ [(nth m (s + 1)).drop 1] := by simp [inn, List.range_succ]
theorem inn_length (m : List (List Int)) (s : Nat) : (inn m s).length = s := by simp [inn]
theorem add_pos' (a : Addr) {n : Nat} (h : 0 < n) : a.add n = ⟨a.block, a.off + n, none⟩ := by
  cases n with
  | zero => omega
  | succ n => rfl
theorem add_zero' (a : Addr) : a.add 0 = a := by simp [Addr.add]
theorem add_add (a : Addr) (i j : Nat) : (a.add i).add j = a.add (i + j) := by
  rcases Nat.eq_zero_or_pos i with rfl | hi
  · rw [add_zero', Nat.zero_add]
  · rcases Nat.eq_zero_or_pos j with rfl | hj
    · rw [add_zero', Nat.add_zero]
    · rw [add_pos' _ hi, add_pos' _ hj, add_pos' _ (by omega)]
      simp only [Nat.add_assoc]
theorem Row.drop {α : Type} {k : Kd α} {w : World} {ok : Nat → Prop} {ad : Addr} {xs : List α} (h : Row k w ok (some ad) xs) (i : Nat) : Row k w ok (some (ad.add (i * k.size))) (xs.drop i) := by
  refine ⟨by rw [List.length_drop]; have := h.1; omega, fun hp => ?_⟩
  rw [List.length_drop] at hp
  obtain ⟨ad2, e, ho, hb, hc⟩ := h.2 (by omega)
  obtain rfl : ad = ad2 := by injection e
  refine ⟨_, rfl, by rw [add_block]; exact ho, by rw [add_block]; exact hb, fun j hj => ?_⟩
  rw [List.length_drop] at hj
  obtain ⟨cs, h1, h2⟩ := hc (i + j) (by omega)
  refine ⟨cs, by rw [List.getElem_drop]; exact h1, fun l u hu => ?_⟩
  rw [add_add, ← Nat.add_assoc, ← Nat.add_mul]
  exact h2 l u hu
/-- A kind of data whose blocks all lie among ok0. -/
def Kd.both {α : Type} (k : Kd α) (ok0 : Nat → Prop) : Kd α where
  size := k.size
  K w ok x cs := k.K w (fun b => ok0 b ∧ ok b) x cs
  len h := k.len h
  keep h hk := k.keep h fun b hb hl => hk b hb.2 hl
  weak h hk := k.weak h fun b hb hl => ⟨hb.1, hk b hb.2 hl⟩
  one h := k.one h
theorem Row.both {α : Type} [Inhabited α] {k : Kd α} {w : World} {ok ok0 : Nat → Prop} {A : Option Addr} {xs : List (List α)} (h : Row (k.slice.both ok0) w ok A xs) {i : Nat} (hi : i < xs.length) :
    ∃ ad B c, A = some ad ∧ w.cell? (ad.add i) = some (.slice B (nth xs i).length c) ∧ (nth xs i).length ≤ c ∧ c ≤ 9223372036854775807 ∧ Row k w ok0 B (nth xs i) := by
  obtain ⟨ad, cs, e, _, _, ⟨B, c, rfl, h1, h2, h3⟩, hc⟩ := h.at_ hi
  refine ⟨ad, B, c, e, ?_, h1, h2, h3.weak fun b h _ => h.1⟩
  have := hc 0 _ rfl
  rwa [show i * (k.slice.both ok0).size + 0 = i from by simp [Kd.both, Kd.slice]] at this
set_option maxRecDepth 100000 in
set_option maxHeartbeats 1000000 in
theorem within_any (ok : Nat → Prop) (A : Option Addr) (n c : Nat) (m : List (List Int)) (w : World) (hS : Sq m n) (h2 : 2 ≤ n) (hc : n ≤ c) (hc2 : c ≤ 9223372036854775807) (h : Row Kd.big.slice w ok A m) :
    Calls Try.prog 67 #[.slice A n c] w fun e w' => ∃ A2 c2, (n - 1 ≤ c2 ∧ c2 ≤ 9223372036854775807 ∧ Row (Kd.big.slice.both (Old w ok)) w' (Up ok w.heap.size) A2 (inn m (n - 1))) ∧ e = .returned (.slice A2 (n - 1) c2) ∧ Below w.heap.size w w' := by
  refine veil fun R HP => ?_
  have HR := Lib.hid (h.weak (ok' := Old w ok) fun b h1 h2 => ⟨h1, h2⟩)
  have HS := Lib.hid hS
  obtain ⟨ad, -, -, rfl, -, -, -, -⟩ := h.sub (i := 0) (by have := hS.len; omega)
  clear h hS
  have i1 : (0 : Int) ≤ (n : Int) - 1 := by omega
  go_enter Try.func67, Try.ntmps67
  go_wp2
  go_loopw [3, 9] (fun v i w' => ∃ k : Nat, k ≤ n - 1 ∧ i = .int .i64 (k : Int) ∧ Hid (LG (Kd.big.slice.both (Old w ok)) 89 w w' (Old w ok) v (inn m k))) (fun _ i _ => n - (intOf i).toNat)
  case atStart => exact ⟨0, by omega, by go_num, Lib.hid (LG.nil (Below.refl _ _))⟩
  case round =>
    obtain ⟨k, hk, rfl, HG⟩ := hrel
    by_cases hlt : k < n - 1
    · obtain ⟨ad2, B, e, e1, d1, hd, hd2, hB⟩ := (HR.out.ext HG.out.ext).sub (i := k + 1) (by have := HS.out.len; omega)
      obtain rfl : ad = ad2 := by injection e1
      clear e1
      rw [HS.out.row (k + 1) (by omega)] at d1 hd
      obtain ⟨bd, _, _, _, rfl, _, _, _⟩ := hB.bigAt (i := 0) (by rw [HS.out.row (k + 1) (by omega)]; omega)
      have HB := Lib.hid hB
      clear hB
      have i2 : (0 : Int) ≤ (k : Int) := by omega
      have i3 : (k : Int) < (n : Int) - 1 := by omega
      rw [add_pos' _ (by omega), show ad.off + (k + 1) = ad.off + 1 + k from by omega] at d1
      have hE := HB.out.drop 1
      rw [add_pos' _ (by decide), show 1 * Kd.big.size = 2 from rfl] at hE
      have hlen : ((nth m (k + 1)).drop 1).length = n - 1 := by rw [List.length_drop, HS.out.row _ (by omega)]
      have hl16 := HS.out.le
      have HE := Lib.hid hE
      have HLEN := Lib.hid hlen
      have HG1 := Lib.hid (HG.out.move (ext_alloc (Below.refl _ _) (.cells #[.slice (some ⟨bd.block, bd.off + 2, none⟩) (n - 1) (n - 1)] 89)))
      have Y6 := Lib.hid (HG.out.fresh (j := Kd.big.slice.both (Old w ok)) (fun b h => h.2) (slice_K HLEN.out.symm (Nat.le_refl _) (by omega) ((HE.out.ext (ext_alloc (Below.refl _ _) (.cells #[.slice (some ⟨bd.block, bd.off + 2, none⟩) (n - 1) (n - 1)] 89))).weak (ok' := fun b => Old w ok b ∧ Up (Old w ok) wr.heap.size b) fun b h _ => ⟨h, .inl h⟩)))
      have o1 := Lib.hid (one_cell wr (.slice (some ⟨bd.block, bd.off + 2, none⟩) (n - 1) (n - 1)) 89 rfl)
      clear hE hlen
      go_wp2_with (at_builtin; (refine wpList_push (k := Kd.big.slice.both (Old w ok)) rfl (.tmp 13) (.tmp 20) 65 rfl (.slice none 0 0) 24 Try.underlying65 info_bigs rfl (show 0 < 1 by omega) rfl HG1.out.grow _ [.slice (some ⟨bd.block, bd.off + 2, none⟩) (n - 1) (n - 1)] Y6.out ⟨wr.heap.size, 0, none⟩ 1 rfl o1.out (one_one _ _ _) (by rw [inn_length]; omega) (by rw [inn_length]; omega) HG1.out.ext.size ?_); intro v' w5 hg5 hr5 hv5)
      go_roundw
      case rel => exact ⟨k + 1, by omega, by go_num, Lib.hid (HG1.out.push (by rw [inn_step]; exact hg5) hr5)⟩
      case measure => simp [intOf] <;> omega
    · obtain rfl : k = n - 1 := by omega
      have t1 : ¬ (((n - 1 : Nat) : Int) < ((n - 1 : Nat) : Int)) := by omega
      obtain ⟨A9, c9, rfl, e1, e2, e3⟩ := HG.out.row
      rw [inn_length] at e1 HG
      have Y9 := Lib.hid (And.intro e1 (And.intro e2 (e3.weak (ok' := Up ok w.heap.size) fun b hb _ => hb.elim (fun h => .inl h.1) .inr)))
      have EX := Lib.hid HG.out.ext
      rw [inn_length]
      clear e1 e2 e3
      go_wp2
      exact HP.out _ _ ⟨A9, c9, Y9.out, rfl, EX.out⟩
end Go.Proofs.Ythibocafjkbeeaa
/-
  bareiss.next: what it returns. Condition: a square matrix of 2 to 16 rows, a divisor that is not 0, and all numbers on the way are among those that are spoken of.
-/
namespace Go.Proofs.Ythibocafjkbeeaa
open Go.RowKit

/-- The number in row i and column j of the next stage. -/
def nxE (m : List (List Int)) (last : Int) (i j : Nat) : Int := (nth (nth m 0) 0 * nth (nth m (i + 1)) (j + 1) - nth (nth m (i + 1)) 0 * nth (nth m 0) (j + 1)) / last
def nxRow (m : List (List Int)) (last : Int) (i s : Nat) : List Int := (List.range s).map fun j => nxE m last i j
def nxt (m : List (List Int)) (last : Int) (n s : Nat) : List (List Int) := (List.range s).map fun i => nxRow m last i n
theorem nxRow_step (m : List (List Int)) (last : Int) (i s : Nat) : nxRow m last i (s + 1) = nxRow m last i s ++ [nxE m last i s] := by simp [nxRow, List.range_succ]
theorem nxt_step (m : List (List Int)) (last : Int) (n s : Nat) : nxt m last n (s + 1) = nxt m last n s ++ [nxRow m last s n] := by simp [nxt, List.range_succ]
theorem nxRow_length (m : List (List Int)) (last : Int) (i s : Nat) : (nxRow m last i s).length = s := by simp [nxRow]
theorem nxt_length (m : List (List Int)) (last : Int) (n s : Nat) : (nxt m last n s).length = s := by simp [nxt]
/-- The numbers on the way are among those that are spoken of. -/
structure NxOk (m : List (List Int)) (n : Nat) (last : Int) : Prop where
  nz : last ≠ 0
  sl : Sm last
  sm : ∀ i j, i < n → j < n → Sm (nth (nth m i) j)
  st : ∀ i j, i + 1 < n → j + 1 < n → Sm (nth (nth m 0) 0 * nth (nth m (i + 1)) (j + 1)) ∧ Sm (nth (nth m (i + 1)) 0 * nth (nth m 0) (j + 1)) ∧ Sm (nth (nth m 0) 0 * nth (nth m (i + 1)) (j + 1) - nth (nth m (i + 1)) 0 * nth (nth m 0) (j + 1)) ∧ DivCan (nth (nth m 0) 0 * nth (nth m (i + 1)) (j + 1) - nth (nth m (i + 1)) 0 * nth (nth m 0) (j + 1)).natAbs last.natAbs
theorem nth_inn (m : List (List Int)) (s i : Nat) (h : i < s) : nth (inn m s) i = (nth m (i + 1)).drop 1 := by unfold inn; exact nth_map_range _ _ _ h
theorem nth_drop {α : Type} [Inhabited α] (xs : List α) (i j : Nat) : nth (xs.drop i) j = nth xs (i + j) := by
  simp [nth, List.getD_eq_getElem?_getD, List.getElem?_drop]
theorem Big.upTo {w : World} {ok : Nat → Prop} {B C : Nat} {v : Value} {z : Int} (h : Big w (Up ok B) v z) (hb : C ≤ B) : Big w (Up ok C) v z := h.weak fun b h _ => h.elim .inl fun h => .inr (Nat.le_trans hb h)
theorem nx_set {w1 W : World} {okk : Nat → Prop} {X : Nat} {z : Int} {A : Option Addr} {l d : Nat} (hX : Own W X 59 [.bool false, .slice none 0 0]) (hb : Below w1.heap.size w1 W) (hl : w1.heap.size ≤ X) (hz : Big W okk (.agg #[.bool (decide (z < 0)), .slice A l d]) z) :
    Below w1.heap.size w1 ((W.setCell ⟨X, 0, none⟩ (.bool (decide (z < 0)))).setCell ⟨X, 1, none⟩ (.slice A l d)) ∧ Own ((W.setCell ⟨X, 0, none⟩ (.bool (decide (z < 0)))).setCell ⟨X, 1, none⟩ (.slice A l d)) X 59 [.bool (decide (z < 0)), .slice A l d] ∧ Big ((W.setCell ⟨X, 0, none⟩ (.bool (decide (z < 0)))).setCell ⟨X, 1, none⟩ (.slice A l d)) okk (.agg #[.bool (decide (z < 0)), .slice A l d]) z := by
  have c1 := hX.cell 0
  have c2 := set_apart (w := W) (p := ⟨X, 0, none⟩) (q := ⟨X, 1, none⟩) (u := .bool (decide (z < 0))) (by simp) (hX.cell 1)
  exact ⟨ext_set (ext_set hb hl _) hl _, (hX.set_ 0 _).set_ 1 _, set_big (set_big hz c1 (fun x h => by cases h) _) c2 (fun x h => by cases h) _⟩
theorem nx_alloc {w1 W : World} {okk : Nat → Prop} {z : Int} {A : Option Addr} {l d : Nat} (hb : Below w1.heap.size w1 W) (hz : Big W okk (.agg #[.bool (decide (z < 0)), .slice A l d]) z) :
    Below w1.heap.size w1 (W.alloc (.cells #[.bool (decide (z < 0)), .slice A l d] 59)) ∧ Own (W.alloc (.cells #[.bool (decide (z < 0)), .slice A l d] 59)) W.heap.size 59 [.bool (decide (z < 0)), .slice A l d] ∧ Big (W.alloc (.cells #[.bool (decide (z < 0)), .slice A l d] 59)) okk (.agg #[.bool (decide (z < 0)), .slice A l d]) z :=
  ⟨ext_alloc hb _, Own.new W _ _, hz.ext (ext_alloc (Below.refl _ _) _)⟩
theorem all_kept3 {w w1 : World} (hb : Below w.heap.size w w1) {p1 p2 p3 : Addr} {u1 u2 u3 : Value} (h : w.cell? p1 = some u1 ∧ w.cell? p2 = some u2 ∧ w.cell? p3 = some u3) : w1.cell? p1 = some u1 ∧ w1.cell? p2 = some u2 ∧ w1.cell? p3 = some u3 := ⟨kept hb h.1, kept hb h.2.1, kept hb h.2.2⟩
set_option maxRecDepth 100000 in
set_option maxHeartbeats 2000000 in
theorem next_any (ok : Nat → Prop) (A : Option Addr) (n c : Nat) (m : List (List Int)) (last : Int) (L : Option Addr) (ll lc : Nat) (w : World) (hS : Sq m n) (h2 : 2 ≤ n) (hc : n ≤ c) (hc2 : c ≤ 9223372036854775807) (hO : NxOk m n last) (hb : Big w ok (.agg #[.bool (decide (last < 0)), .slice L ll lc]) last) (h : Row Kd.big.slice w ok A m) :
    Calls Try.prog 54 #[.slice A n c, .agg #[.bool (decide (last < 0)), .slice L ll lc]] w fun e w' => ∃ A2 c2, (n - 1 ≤ c2 ∧ c2 ≤ 9223372036854775807 ∧ Row Kd.big.slice w' (Up ok w.heap.size) A2 (nxt m last (n - 1) (n - 1))) ∧ e = .returned (.slice A2 (n - 1) c2) ∧ Below w.heap.size w w' := by
  refine veil fun R HP => ?_
  have HR := Lib.hid (h.weak (ok' := Old w ok) fun b h1 h2 => ⟨h1, h2⟩)
  have HB := Lib.hid (hb.weak (ok' := Old w ok) fun b h1 h2 => ⟨h1, h2⟩)
  have HS := Lib.hid hS
  have HO := Lib.hid hO
  have O0 := Lib.hid (Own.new w 59 #[.bool (decide (last < 0)), .slice L ll lc])
  have B0 := Lib.hid (ext_alloc (Below.refl w.heap.size w) (.cells #[.bool (decide (last < 0)), .slice L ll lc] 59))
  obtain ⟨ad, E0, e0, rfl, a1, a2, -, h0⟩ := HR.out.sub (i := 0) (by have := hS.len; omega)
  obtain ⟨bd, E1, p1, q1, rfl, x1, y1, v1⟩ := h0.bigAt (i := 0) (by rw [hS.row 0 (by omega)]; omega)
  rw [add_zero'] at a1
  rw [show (0 * 2 : Nat) = 0 from rfl, add_zero'] at x1 y1
  rw [hS.row 0 (by omega)] at a1
  have H0 := Lib.hid h0
  have V1 := Lib.hid v1
  have C1 := Lib.hid (And.intro a1 (And.intro x1 y1))
  clear h hS hO hb h0 v1 a1 a2 x1 y1
  go_enter Try.func54, Try.ntmps54
  go_wp2_with fail
  with_reducible refine (within_any (Old w ok) (some ad) n c m _ HS.out h2 hc hc2 (HR.out.ext B0.out)).mono ?_
  rintro e w1 ⟨A2, c2, hw, rfl, hb⟩
  have W1 := Lib.hid (hw.2.2)
  have B1 := Lib.hid (ext_trans B0.out hb)
  have O1 := Lib.hid (O0.out.ext hb)
  clear hw hb
  go_wp2
  go_loopw [5, 18] (fun v i w' => ∃ k : Nat, k ≤ n - 1 ∧ i = .int .i64 (k : Int) ∧ Hid (LG Kd.big.slice 89 w1 w' (Old w ok) v (nxt m last (n - 1) k))) (fun _ i _ => n - (intOf i).toNat)
  case atStart => exact ⟨0, by omega, by go_num, Lib.hid (LG.nil (Below.refl _ _))⟩
  case round =>
    obtain ⟨k, hk, rfl, HG⟩ := hrel
    have HW := Lib.hid HG.out.ext
    have HGE := Lib.hid (ext_trans B1.out HG.out.ext)
    obtain ⟨wo, rfl⟩ : ∃ wo : World, wo = wr := ⟨_, rfl⟩
    by_cases hlt : k < n - 1
    · obtain ⟨ad2, B, e, rfl, d1, hd, -, hB⟩ := (W1.out.ext HW.out).both (i := k) (by rw [inn_length]; exact hlt)
      rw [nth_inn _ _ _ hlt] at d1 hd hB
      have hl1 : ((nth m (k + 1)).drop 1).length = n - 1 := by rw [List.length_drop, HS.out.row _ (by omega)]
      rw [hl1] at d1 hd
      have HB2 := Lib.hid hB
      have HL1 := Lib.hid hl1
      clear hB hl1
      have i1 : (0 : Int) ≤ (k : Int) := by omega
      have i2 : (k : Int) < ((n - 1 : Nat) : Int) := by omega
      go_wp2
      go_loopw [8, 25] (fun v i w' => ∃ j : Nat, j ≤ n - 1 ∧ i = .int .i64 (j : Int) ∧ Hid (LG Kd.big 59 wo w' (Old w ok) v (nxRow m last k j))) (fun _ i _ => n - (intOf i).toNat)
      case atStart => exact ⟨0, by omega, by go_num, Lib.hid (LG.nil (Below.refl _ _))⟩
      case round =>
        obtain ⟨j, hj, rfl, HI⟩ := hrel
        by_cases hlt2 : j < n - 1
        · obtain ⟨bd2, E2, p2, q2, rfl, x2, y2, v2⟩ := (HB2.out.ext HI.out.ext).bigAt (i := j) (by rw [HL1.out]; exact hlt2)
          rw [nth_drop, Nat.add_comm 1 j] at x2 v2
          obtain ⟨ad3, B3, e3, e4, d3, hd3, -, h3⟩ := (HR.out.ext HGE.out).sub (i := k + 1) (by rw [HS.out.len]; omega)
          obtain rfl : ad = ad3 := by injection e4
          rw [HS.out.row (k + 1) (by omega)] at d3 hd3
          obtain ⟨bk, E3, p3, q3, rfl, x3, y3, v3⟩ := (h3.ext HI.out.ext).bigAt (i := 0) (by rw [HS.out.row (k + 1) (by omega)]; omega)
          rw [show (0 * 2 : Nat) = 0 from rfl, add_zero'] at x3 y3
          obtain ⟨bd9, E4, p4, q4, e5, x4, y4, v4⟩ := (H0.out.ext (ext_trans HGE.out HI.out.ext)).bigAt (i := j + 1) (by rw [HS.out.row 0 (by omega)]; omega)
          obtain rfl : bd = bd9 := by injection e5
          rw [add_pos' _ (by omega)] at d3
          have d3' := kept HI.out.ext d3
          have C2 := (all_kept3 (ext_trans HGE.out HI.out.ext) C1.out)
          have OX := Lib.hid (Own.new wr 59 #[.bool (decide (nth (nth m (k + 1)) (j + 1) < 0)), .slice E2 p2 q2])
          have EX := Lib.hid (ext_alloc (Below.refl wr.heap.size wr) (.cells #[.bool (decide (nth (nth m (k + 1)) (j + 1) < 0)), .slice E2 p2 q2] 59))
          have CC := Lib.hid (And.intro (kept EX.out C2.1) (And.intro (kept EX.out C2.2.1) (And.intro (kept EX.out C2.2.2) (And.intro ((OX.out.cell 0).trans (show _ = some (Value.bool (decide (nth (nth m (k + 1)) (j + 1) < 0))) from rfl)) (And.intro ((OX.out.cell 1).trans (show _ = some (Value.slice E2 p2 q2) from rfl)) (And.intro (kept EX.out d3') (And.intro (kept EX.out x3) (And.intro (kept EX.out y3) (And.intro (kept EX.out x4) (kept EX.out y4))))))))))
          have V1' := Lib.hid (V1.out.ext (ext_trans (ext_trans HGE.out HI.out.ext) EX.out))
          have V2 := Lib.hid (v2.ext EX.out)
          have V3 := Lib.hid (v3.ext EX.out)
          have V4 := Lib.hid (v4.ext EX.out)
          have i3 : (0 : Int) ≤ (j : Int) := by omega
          have i4 : (j : Int) < ((n - 1 : Nat) : Int) := by omega
          have i5 : (0 : Int) ≤ (k : Int) + 1 := by omega
          have i6 : (k : Int) + 1 < (n : Int) := by omega
          have i7 : (0 : Int) ≤ (j : Int) + 1 := by omega
          have i8 : (j : Int) + 1 < (n : Int) := by omega
          have i9 : 0 < n := by omega
          have g1 : k + 1 < n := by omega
          have g2 : j + 1 < n := by omega
          have g3 : IntKind.i64.wrap ((k : Int) + 1) = (k : Int) + 1 := by rw [IntKind.wrap_i64]; have := HS.out.le; omega
          have g4 : IntKind.i64.wrap ((j : Int) + 1) = (j : Int) + 1 := by rw [IntKind.wrap_i64]; have := HS.out.le; omega
          clear v2 v3 v4 h3 e4 e5 C2 d3 d3' x3 y3 x4 y4
          go_upto_region 9 with fail
          generalize wr.alloc (.cells #[.bool (decide (nth (nth m (k + 1)) (j + 1) < 0)), .slice E2 p2 q2] 59) = wx at OX EX CC V1' V2 V3 V4 ⊢
          obtain ⟨xa, hxa⟩ : ∃ z, z = nth (nth m 0) 0 := ⟨_, rfl⟩
          obtain ⟨xb, hxb⟩ : ∃ z, z = nth (nth m (k + 1)) (j + 1) := ⟨_, rfl⟩
          obtain ⟨xc, hxc⟩ : ∃ z, z = nth (nth m (k + 1)) 0 := ⟨_, rfl⟩
          obtain ⟨xd, hxd⟩ : ∃ z, z = nth (nth m 0) (j + 1) := ⟨_, rfl⟩
          have HST := HO.out.st k j (by omega) (by omega)
          have S1 := HO.out.sm 0 0 (by omega) (by omega)
          have S2 := HO.out.sm (k + 1) (j + 1) (by omega) (by omega)
          have S3 := HO.out.sm (k + 1) 0 (by omega) (by omega)
          have S4 := HO.out.sm 0 (j + 1) (by omega) (by omega)
          rw [← hxa, ← hxb, ← hxc, ← hxd] at HST
          rw [← hxa] at S1 V1' CC
          rw [← hxb] at S2 V2 CC OX
          rw [← hxc] at S3 V3 CC
          rw [← hxd] at S4 V4 CC
          have HXE := Lib.hid (show nxE m last k j = (xa * xb - xc * xd) / last from by rw [nxE, hxa, hxb, hxc, hxd])
          have HSM := Lib.hid (And.intro S1 (And.intro S2 (And.intro S3 (And.intro S4 HST))))
          clear HST S1 S2 S3 S4 x2 y2
          rw [← hxb]
          clear hxa hxb hxc hxd
          have hs1 := EX.out.size
          have HZ := Lib.hid hs1
          clear hs1
          go_cut [11] (fun x wy => ∃ (X : Nat) (A5 : Option Addr) (l5 d5 : Nat), x = .pointer (some ⟨X, 0, none⟩) ∧ Hid (Below wr.heap.size wr wy ∧ Own wy X 59 [.bool (decide (xa * xb - xc * xd < 0)), .slice A5 l5 d5] ∧ Big wy (Up (Old w ok) wr.heap.size) (.agg #[.bool (decide (xa * xb - xc * xd < 0)), .slice A5 l5 d5]) (xa * xb - xc * xd)))
          case first =>
            go_region_held3 (fun w' => w'.cell? ad = some (.slice (some bd) n e0) ∧ w'.cell? bd = some (.bool (decide (xa < 0))) ∧ w'.cell? ⟨bd.block, bd.off + 1, none⟩ = some (.slice E1 p1 q1) ∧ w'.cell? ⟨wr.heap.size, 0, none⟩ = some (.bool (decide (xb < 0))) ∧ w'.cell? ⟨wr.heap.size, 1, none⟩ = some (.slice E2 p2 q2) ∧ w'.cell? ⟨ad.block, ad.off + (k + 1), none⟩ = some (.slice (some bk) n e3) ∧ w'.cell? bk = some (.bool (decide (xc < 0))) ∧ w'.cell? ⟨bk.block, bk.off + 1, none⟩ = some (.slice E3 p3 q3) ∧ w'.cell? (bd.add ((j + 1) * 2)) = some (.bool (decide (xd < 0))) ∧ w'.cell? ⟨(bd.add ((j + 1) * 2)).block, (bd.add ((j + 1) * 2)).off + 1, none⟩ = some (.slice E4 p4 q4))
              (first | exact all_kept10 (ext_drew (Below.refl _ _)) CC.out | exact all_kept10 (ext_alloc (ext_drew (Below.refl _ _)) _) CC.out | exact all_kept10 B3.out CC.out | exact all_kept10 (ext_alloc B3.out _) CC.out | exact all_kept10 B4.out CC.out | exact all_kept10 (ext_alloc B4.out _) CC.out | exact all_kept10 B5.out CC.out | exact all_kept10 (ext_alloc B5.out _) CC.out | exact all_kept10 (ext_set (ext_set B5.out (by have := B5.out.size; have := B4.out.size; have := B3.out.size; (try simp only); omega) _) (by have := B5.out.size; have := B4.out.size; have := B3.out.size; (try simp only); omega) _) CC.out | exact CC.out)
              (first
                | (go_at_call_of 40 (Value.agg #[Value.bool (decide (xa < 0)), Value.slice E1 p1 q1]); refine (Mul_big (Old w ok) _ _ _ _ _ (V1'.out.ext (by first | exact ext_drew (Below.refl _ _) | exact ext_alloc (ext_drew (Below.refl _ _)) _)) ((V2.out.weak fun b h _ => h.1).ext (by first | exact ext_drew (Below.refl _ _) | exact ext_alloc (ext_drew (Below.refl _ _)) _)) HSM.out.1 HSM.out.2.1).mono ?_; rintro e w3 ⟨v, hv, rfl, hb⟩; obtain ⟨A3, l3, d3, rfl⟩ := hv.lit; have B3 := Lib.hid (ext_trans (show Below wx.heap.size wx _ by first | exact ext_drew (Below.refl _ _) | exact ext_alloc (ext_drew (Below.refl _ _)) _) hb); have Y3 := Lib.hid (hv.upTo (C := wr.heap.size) (by have := HZ.out; first | exact this | (simp; omega))); (first | have N3 := Lib.hid (show Own w3 wx.heap.size _ _ from (Own.new wx.drew _ _).ext hb) | skip); clear hb hv)
                | (go_at_call_of 40 (Value.agg #[Value.bool (decide (xc < 0)), Value.slice E3 p3 q3]); refine (Mul_big (Old w ok) _ _ _ _ _ (V3.out.ext (by first | exact B3.out | exact ext_alloc B3.out _)) (V4.out.ext (by first | exact B3.out | exact ext_alloc B3.out _)) HSM.out.2.2.1 HSM.out.2.2.2.1).mono ?_; rintro e w4 ⟨v, hv, rfl, hb⟩; obtain ⟨A4, l4, d4, rfl⟩ := hv.lit; have Y4 := Lib.hid (hv.upTo (C := wr.heap.size) (by have := HZ.out; have := B3.out.size; first | exact Nat.le_trans HZ.out B3.out.size | (simp; omega))); have Z3 := Lib.hid (Y3.out.ext (ext_trans (show Below w3.heap.size w3 _ by first | exact Below.refl _ _ | exact ext_alloc (Below.refl _ _) _) hb)); have B4 := Lib.hid (ext_trans B3.out (ext_trans (show Below w3.heap.size w3 _ by first | exact Below.refl _ _ | exact ext_alloc (Below.refl _ _) _) hb)); (first | have N4 := Lib.hid (N3.out.ext hb) | have N4 := Lib.hid ((Own.new w3 _ _).ext hb) | skip); clear hb hv)
                | (go_at_call 68; refine (Sub_big (Up (Old w ok) wr.heap.size) _ _ _ _ _ (Z3.out.ext (by first | exact Below.refl _ _ | exact ext_alloc (Below.refl _ _) _)) (Y4.out.ext (by first | exact Below.refl _ _ | exact ext_alloc (Below.refl _ _) _)) HSM.out.2.2.2.2.1 HSM.out.2.2.2.2.2.1).mono ?_; rintro e w5 ⟨v, hv, rfl, hb⟩; obtain ⟨A5, l5, d5, rfl⟩ := hv.lit; have Y5 := Lib.hid (hv.up2' (B := wr.heap.size) (by have := HZ.out; have := B4.out.size; first | exact Nat.le_trans HZ.out B4.out.size | (simp; omega))); have B5 := Lib.hid (ext_trans B4.out (ext_trans (show Below w4.heap.size w4 _ by first | exact Below.refl _ _ | exact ext_alloc (Below.refl _ _) _) hb)); (first | have N5 := Lib.hid (N4.out.ext hb) | have N5 := Lib.hid ((Own.new w4 _ _).ext hb) | skip); clear hb hv; (first | (have r0 := N5.out.cell 0; have r1 := N5.out.cell 1; have f0 := N5.out.free 0; have f1 := N5.out.free 1) | skip)))
            all_goals (try go_wp2_with fail)
            all_goals go_meet
            all_goals (
              have z3 := B3.out.size
              have z4 := B4.out.size
              have z5 := B5.out.size
              have z6 := HZ.out)
            all_goals (first
              | exact ⟨_, _, _, _, rfl, Lib.hid (nx_alloc (ext_trans EX.out B5.out) Y5.out)⟩
              | exact ⟨_, _, _, _, rfl, Lib.hid (nx_set N5.out (ext_trans EX.out B5.out) (by omega) Y5.out)⟩)
          case rest =>
            obtain ⟨X, A5, l5, d5, rfl, HC⟩ := hcut
            clear CC V1' V2 V3 V4 OX
            obtain ⟨z, hz⟩ : ∃ z, z = xa * xb - xc * xd := ⟨_, rfl⟩
            rw [← hz] at HC HXE HSM
            clear hz
            have s1 : wc.cell? ⟨X, 0, none⟩ = some (.bool (decide (z < 0))) := HC.out.2.1.cell 0
            have s2 : wc.cell? ⟨X, 1, none⟩ = some (.slice A5 l5 d5) := HC.out.2.1.cell 1
            have EW := Lib.hid (ext_trans HI.out.ext HC.out.1)
            have OB := Lib.hid ((O1.out.ext HW.out).ext EW.out)
            have s3 : wc.cell? ⟨w.heap.size, 0, none⟩ = some (.bool (decide (last < 0))) := OB.out.cell 0
            have s4 : wc.cell? ⟨w.heap.size, 1, none⟩ = some (.slice L ll lc) := OB.out.cell 1
            have LB := Lib.hid (((HB.out.ext HGE.out).ext EW.out).weak (ok' := Up (Old w ok) wr.heap.size) fun b h _ => .inl h)
            go_wp2_with fail
            with_reducible refine (DivMod_big (Up (Old w ok) wr.heap.size) _ _ _ _ _ HC.out.2.2 LB.out HSM.out.2.2.2.2.2.2.1 HO.out.sl HO.out.nz HSM.out.2.2.2.2.2.2.2).mono ?_
            rintro e w6 ⟨v1, v2, ⟨hv, hv2⟩, rfl, hb⟩
            obtain ⟨A6, l6, d6, rfl⟩ := hv.lit
            obtain ⟨A7, l7, d7, rfl⟩ := hv2.lit
            rw [← HXE.out] at hv ⊢
            obtain ⟨q, hq⟩ : ∃ q, q = nxE m last k j := ⟨_, rfl⟩
            obtain ⟨r, hr⟩ : ∃ r, r = z % last := ⟨_, rfl⟩
            rw [← hq] at hv ⊢
            rw [← hr]
            have HQ := Lib.hid hq
            have Y5 := Lib.hid (hv.up2' (B := wr.heap.size) HC.out.1.size)
            have B6 := Lib.hid (ext_trans HC.out.1 hb)
            clear hv hv2 hb hr hq s1 s2 s3 s4
            have E6 := Lib.hid (ext_alloc (ext_alloc (ext_alloc (Below.refl w6.heap.size w6) (.cells #[.bool (decide (q < 0)), .slice A6 l6 d6] 59)) (.cells #[.bool (decide (r < 0)), .slice A7 l7 d7] 59)) (.cells #[.bool (decide (q < 0)), .slice A6 l6 d6] 59))
            have X5 := Lib.hid ((HI.out.move B6.out).move E6.out)
            have Y6 := Lib.hid (HI.out.fresh (fun b h => Nat.lt_of_lt_of_le h.2 HGE.out.size) (Y5.out.ext E6.out).K)
            have o1 := Lib.hid (two_cells ((w6.alloc (.cells #[.bool (decide (q < 0)), .slice A6 l6 d6] 59)).alloc (.cells #[.bool (decide (r < 0)), .slice A7 l7 d7] 59)) (.bool (decide (q < 0))) (.slice A6 l6 d6) 59 (s := w6.heap.size + 1 + 1) (by simp))
            have hl16 := HS.out.le
            go_wp2_with (at_builtin; (refine wpList_push (k := Kd.big) rfl (.tmp 60) (.tmp 62) 89 rfl (.agg #[.bool false, .slice none 0 0]) 32 Try.underlying89 info_int rfl (by decide) rfl X5.out.grow q [.bool (decide (q < 0)), .slice A6 l6 d6] Y6.out ⟨w6.heap.size + 1 + 1, 0, none⟩ 1 rfl o1.out (two_one _ _ _ _) (by rw [nxRow_length]; omega) (by rw [nxRow_length]; omega) X5.out.ext.size ?_); intro v' w7 hg7 hr7 hv7)
            go_roundw
            case rel => exact ⟨j + 1, by omega, by go_num, Lib.hid (X5.out.push (by rw [nxRow_step, ← HQ.out]; exact hg7) hr7)⟩
            case measure => simp [intOf] <;> omega
        · obtain rfl : j = n - 1 := by omega
          have t1 : ¬ (((n - 1 : Nat) : Int) < ((n - 1 : Nat) : Int)) := by omega
          obtain ⟨A9, c9, rfl, f1, f2, f3⟩ := HI.out.row
          have hln : (nxRow m last k (n - 1)).length = n - 1 := nxRow_length _ _ _ _
          rw [hln] at f1 HI
          rw [hln]
          have HG1 := Lib.hid ((HG.out.move HI.out.ext).move (ext_alloc (Below.refl _ _) (.cells #[.slice A9 (n - 1) c9] 89)))
          have Y6 := Lib.hid (HG.out.fresh (fun b h => Nat.lt_of_lt_of_le h.2 B1.out.size) (slice_K hln.symm f1 f2 (f3.ext (ext_alloc (Below.refl _ _) (.cells #[.slice A9 (n - 1) c9] 89)))))
          have o1 := Lib.hid (one_cell wr (.slice A9 (n - 1) c9) 89 rfl)
          have hl16 := HS.out.le
          clear f1 f2 f3 hln
          go_wp2_with (at_builtin; (refine wpList_push (k := Kd.big.slice) rfl (.tmp 65) (.tmp 67) 65 rfl (.slice none 0 0) 24 Try.underlying65 info_bigs rfl (by decide) rfl HG1.out.grow (nxRow m last k (n - 1)) [.slice A9 (n - 1) c9] Y6.out ⟨wr.heap.size, 0, none⟩ 1 rfl o1.out (one_one _ _ _) (by rw [nxt_length]; omega) (by rw [nxt_length]; omega) HG1.out.ext.size ?_); intro v' w5 hg5 hr5 hv5)
          go_roundw
          case rel => exact ⟨k + 1, by omega, by go_num, Lib.hid (HG1.out.push (by rw [nxt_step]; exact hg5) hr5)⟩
          case measure => simp [intOf] <;> omega
    · obtain rfl : k = n - 1 := by omega
      have t1 : ¬ (((n - 1 : Nat) : Int) < ((n - 1 : Nat) : Int)) := by omega
      obtain ⟨A9, c9, rfl, e1, e2, e3⟩ := HG.out.row
      rw [nxt_length] at e1 HG
      have Y9 := Lib.hid (And.intro e1 (And.intro e2 (e3.weak (ok' := Up ok w.heap.size) fun b hb _ => hb.elim (fun h => .inl h.1) fun h => .inr (Nat.le_trans B1.out.size h))))
      rw [nxt_length]
      clear e1 e2 e3
      go_wp2
      exact HP.out _ _ ⟨A9, c9, Y9.out, rfl, HGE.out⟩
end Go.Proofs.Ythibocafjkbeeaa
