/- Stacks: rows of a call's own that are cut at their end. -/
import Derived.Test.YtokhnlhffnidmaaRng
import Derived.Test.YtokhnlhffnidmaaPlainF
namespace Go.Proofs.Ytokhnlhffnidmaa
open Go.RowKit Elen
section
variable {α : Type} {K : Kind α} {E : TypeId} {F : Nat → Prop} {base : Nat} {w w1 : World} {v : Value} {xs : List α}
theorem Own.same {S : Nat → Prop} {A B : World} (h : Own K E F base A v xs) (k : SameOn S A B) (hF : ∀ b, F b → S b) (hg : ∀ g, v.ownBlock = some g → S g) : Own K E F base B v xs :=
  (h.bound.move (fun b ⟨hb, hlt⟩ _ => k.block b hlt (hF b hb)) (fun g hgb => k.block g (h.block g hgb).2 (hg g hgb))).mono fun _ h => h.1
theorem Own.top {A : Option Addr} {n c : Nat} {x : α} (h : Own K E F base w (.slice A n c) (xs ++ [x])) : ∃ g vs, n = xs.length + 1 ∧ A = some ⟨g, 0, none⟩ ∧ n ≤ c ∧ base ≤ g ∧ g < w.heap.size ∧ K.R (fun b => F b ∧ b ≠ g) w x vs ∧ (∀ j (hj : j < vs.length), w.cell? ⟨g, xs.length * K.sz + j, none⟩ = some vs[j]) := by
  have hb := h.block
  obtain ⟨cs, h1, h2, h3⟩ := h
  obtain ⟨hl, h1'⟩ := id h1
  obtain ⟨vs, k1, k2⟩ := h3 xs.length (by simp)
  simp only [List.getElem_concat_length] at k1
  rcases h1' with ⟨e, hn⟩ | ⟨g, cap, cur, e, r1, r2, r3, r4, r5, r6⟩
  · simp at hn
  · cases e
    refine ⟨g, vs, by simp, rfl, r3, r1, (hb g rfl).2, K.mono (fun b hb => ⟨hb.1, fun e => hb.2 (by rw [e]; rfl)⟩) k1, fun j hj => ?_⟩
    have hvl := K.len k1
    have hlt : xs.length * K.sz + j < (xs ++ [x]).length * K.sz := by
      rw [List.length_append, Nat.add_mul]; simp only [List.length_cons, List.length_nil, Nat.zero_add, Nat.one_mul]; omega
    rw [h1.cellAt _ hlt]
    exact k2 j hj
theorem Own.pop {A : Option Addr} {n c : Nat} {x : α} (h : Own K E F base w (.slice A n c) (xs ++ [x])) : Own K E F base w (.slice A xs.length c) xs := by
  obtain ⟨cs, h1, h2, h3⟩ := h
  obtain ⟨hl, h1'⟩ := id h1
  have hpos := K.pos
  rcases h1' with ⟨e, hn⟩ | ⟨g, cap, cur, e, r1, r2, r3, r4, r5, r6⟩
  · simp at hn
  · cases e
    simp only [List.length_append, List.length_cons, List.length_nil, Nat.zero_add] at *
    have hle : xs.length * K.sz ≤ (xs.length + 1) * K.sz := Nat.mul_le_mul_right _ (by omega)
    have hle2 : xs.length * K.by_ ≤ (xs.length + 1) * K.by_ := Nat.mul_le_mul_right _ (by omega)
    refine ⟨cs.take (xs.length * K.sz), ⟨by rw [List.length_take]; omega, .inr ⟨g, c, cur, rfl, r1, r2, by omega, r4, r5, ?_⟩⟩, by omega, fun i hi => ?_⟩
    · rw [← r6, List.take_take, Nat.min_eq_left hle]
    · obtain ⟨vs, k1, k2⟩ := h3 i (by omega)
      rw [List.getElem_append_left hi] at k1
      refine ⟨vs, k1, fun j hj => ?_⟩
      have hvl := K.len k1
      have hlt : i * K.sz + j < xs.length * K.sz := by
        have : (i + 1) * K.sz ≤ xs.length * K.sz := Nat.mul_le_mul_right _ hi
        rw [Nat.add_mul, Nat.one_mul] at this; omega
      rw [List.getElem?_take_of_lt hlt]
      exact k2 j hj
theorem Own.one {x : α} {ys : List Value} (h : K.R F w x ys) (hF : ∀ b, F b → b < w.heap.size) (E : TypeId) (hb : base ≤ w.heap.size) (hby : K.by_ ≤ 140737488355328) : Own K E F base (w.alloc (.cells ys.toArray E)) (.slice (some ⟨w.heap.size, 0, none⟩) 1 1) [x] := by
  have hl := K.len h
  refine ⟨ys, ⟨by simpa using hl, .inr ⟨w.heap.size, 1, ys.toArray, rfl, hb, World.alloc_heap_new _ _, by simp, by simp only [maxLen]; omega, by simpa using hl, by simp [← hl]⟩⟩, by simpa using hby, fun i hi => ?_⟩
  obtain rfl : i = 0 := by simpa using hi
  refine ⟨ys, K.mono (fun b hb => ⟨hb, fun e => ?_⟩) (K.later ((Below.refl _ _).alloc (Nat.le_refl _) _) h), fun j hj => by simp [hj]⟩
  have := hF b hb
  simp only [Value.ownBlock, Option.some.injEq] at e
  omega
end

/-- a term and how deep it stands -/
def KPl : Kind (T × Nat) where
  sz := 3
  by_ := 40
  pos := by decide
  bpos := by decide
  R F w p vs := ∃ x y, vs = [x, y, .int .i64 (p.2 : Int)] ∧ IsF F w p.1 x y
  len h := by obtain ⟨x, y, rfl, _⟩ := h; rfl
  one h := by
    obtain ⟨x, y, rfl, h⟩ := h
    intro u hu
    simp only [List.mem_cons, List.not_mem_nil, or_false] at hu
    rcases hu with rfl | rfl | rfl
    · exact h.cells.1
    · exact h.cells.2
    · rfl
  mono hF h := by obtain ⟨x, y, e, h⟩ := h; exact ⟨x, y, e, h.mono hF⟩
  bound h := by obtain ⟨x, y, e, h⟩ := h; exact ⟨x, y, e, h.bound⟩
  move hm h := by obtain ⟨x, y, e, h⟩ := h; exact ⟨x, y, e, h.move hm⟩
/-- two terms -/
def KTT : Kind (T × T) where
  sz := 4
  by_ := 64
  pos := by decide
  bpos := by decide
  R F w p vs := ∃ x y x' y', vs = [x, y, x', y'] ∧ IsF F w p.1 x y ∧ IsF F w p.2 x' y'
  len h := by obtain ⟨x, y, x', y', rfl, _⟩ := h; rfl
  one h := by
    obtain ⟨x, y, x', y', rfl, h, h'⟩ := h
    intro u hu
    simp only [List.mem_cons, List.not_mem_nil, or_false] at hu
    rcases hu with rfl | rfl | rfl | rfl
    · exact h.cells.1
    · exact h.cells.2
    · exact h'.cells.1
    · exact h'.cells.2
  mono hF h := by obtain ⟨x, y, x', y', e, h, h'⟩ := h; exact ⟨x, y, x', y', e, h.mono hF, h'.mono hF⟩
  bound h := by obtain ⟨x, y, x', y', e, h, h'⟩ := h; exact ⟨x, y, x', y', e, h.bound, h'.bound⟩
  move hm h := by obtain ⟨x, y, x', y', e, h, h'⟩ := h; exact ⟨x, y, x', y', e, h.move hm, h'.move hm⟩
theorem kept_over {A w4 : World} {o : Obj} {row : Option Nat} {p : Addr} {v : Value} (h : A.cell? p = some v) (hg : (A.alloc o).grownBy w4 row) (hr : row ≠ some p.block) : w4.cell? p = some v ∧ w4.frozen? p = A.frozen? p := by
  have hlt := World.block_lt_of_cell? A p h
  have hb := (hg.block p.block (by simp; omega) (fun e => hr e.symm)).trans (Below.heap_alloc A o p.block hlt)
  exact ⟨(World.cell?_of_block hb).trans h, World.frozen?_of_block hb⟩
/-- some new blocks, one behind the other -/
def allocs (w : World) (os : List Obj) : World := os.foldl World.alloc w
theorem allocs_size : ∀ (os : List Obj) (w : World), (allocs w os).heap.size = w.heap.size + os.length
  | [], _ => rfl
  | o :: os, w => by
    show (allocs (w.alloc o) os).heap.size = _
    rw [allocs_size os (w.alloc o), World.size_alloc, List.length_cons]; omega
theorem allocs_below {n : Nat} : ∀ (os : List Obj) (w : World), n ≤ w.heap.size → Below n w (allocs w os)
  | [], w, _ => Below.refl _ _
  | o :: os, w, h => ((Below.refl _ _).alloc h o).trans (allocs_below os (w.alloc o) (by simp; omega))
theorem allocs_get : ∀ (os : List Obj) (w : World) (i : Nat) (hi : i < os.length), (allocs w os).heap[w.heap.size + i]? = some os[i]
  | o :: os, w, 0, _ => by
    show (allocs (w.alloc o) os).heap[w.heap.size]? = some o
    rw [(allocs_below (n := w.heap.size + 1) os (w.alloc o) (by simp)).block w.heap.size (by omega)]
    exact World.alloc_heap_new w o
  | o :: os, w, i + 1, hi => by
    have := allocs_get os (w.alloc o) i (by simpa using hi)
    rw [World.size_alloc] at this
    rw [show w.heap.size + (i + 1) = w.heap.size + 1 + i from by omega]
    exact this
theorem SameOn.join {S S' : Nat → Prop} {A B C : World} (h : SameOn S A B) (k : SameOn S' B C) (hS : ∀ i, i < A.heap.size → S i → S' i) : SameOn S A C :=
  ⟨k.os.trans h.os, k.tape.trans h.tape, k.output.trans h.output, Nat.le_trans h.size k.size, fun i hi hSi => (k.block i (Nat.lt_of_lt_of_le hi h.size) (hS i hi hSi)).trans (h.block i hi hSi)⟩
end Go.Proofs.Ytokhnlhffnidmaa
