/- Terms, slices and rows in memory: the words in which the contracts of this claim speak, and what follows from them. -/
import Derived.Test.YtokhnlhffnidmaaProg
import Derived.Test.YtokhnlhffnidmaaPlainA
import Derived.WalkKit
import Derived.WalkSpells
import Derived.WalkLawsBesides
import Derived.Lib.Hide
import Derived.Deep.LoopGhost
import Derived.Maps.AppendAt
import Derived.Deep.AppendLies
namespace Go.Proofs.Ytokhnlhffnidmaa
open Go.RowKit Elen

/-- a number of 64 bits -/
def I64 (n : Int) : Prop := -9223372036854775808 ≤ n ∧ n ≤ 9223372036854775807

/-! ### worlds -/
theorem cell_kept {w w1 : World} (hb : Below w.heap.size w w1) {a : Addr} {v : Value} (h : w.cell? a = some v) : w1.cell? a = some v :=
  (hb.cell (World.block_lt_of_cell? w a h)).trans h
/-- all old cells and marks read as before -/
theorem bcell {B : Nat} {W w1 : World} (hb : Below B W w1) : (∀ b o, b < B → w1.cell? ⟨b, o, none⟩ = W.cell? ⟨b, o, none⟩) ∧ (∀ b o, b < B → w1.frozen? ⟨b, o, none⟩ = W.frozen? ⟨b, o, none⟩) :=
  ⟨fun b o h => hb.cell (p := ⟨b, o, none⟩) h, fun b o h => hb.frozen (p := ⟨b, o, none⟩) h⟩
theorem cell_new (w : World) (cs : Array Value) (t : TypeId) (j : Nat) {v : Value} (h : cs[j]? = some v) : (w.alloc (.cells cs t)).cell? ⟨w.heap.size, j, none⟩ = some v := by
  rw [World.cell?_alloc_at _ _ _ _ rfl]; exact h
theorem cell_old {w : World} (o : Obj) {a : Addr} {v : Value} (h : w.cell? a = some v) : (w.alloc o).cell? a = some v :=
  cell_kept ((Below.refl _ _).alloc (Nat.le_refl _) _) h
theorem below_then {B : Nat} {w w1 w2 : World} (h : Below B w w1) (hB : B ≤ w1.heap.size) (k : Below w1.heap.size w1 w2) : Below B w w2 := h.trans (k.mono hB)
theorem ret_int {k : IntKind} {a b : Int} (h : a = b) : Ending.returned (.int k a) = .returned (.int k b) := by rw [h]
theorem ret_bool {a b : Bool} (h : a = b) : Ending.returned (.bool a) = .returned (.bool b) := by rw [h]
theorem cell_of_heap {w w1 : World} {b o : Nat} (h : w1.heap[b]? = w.heap[b]?) : w1.cell? ⟨b, o, none⟩ = w.cell? ⟨b, o, none⟩ := World.cell?_of_block (a := ⟨b, o, none⟩) h

/-! ### kinds of elements -/
/-- How an element lies in cells; F: which blocks it may lean on. -/
structure Kind (α : Type) where
  sz : Nat
  by_ : Nat
  pos : 0 < sz
  bpos : 0 < by_
  R : (Nat → Prop) → World → α → List Value → Prop
  len : ∀ {F w x vs}, R F w x vs → vs.length = sz
  one : ∀ {F w x vs}, R F w x vs → ∀ u ∈ vs, u.oneCell' = true
  mono : ∀ {F F' : Nat → Prop} {w x vs}, (∀ b, F b → F' b) → R F w x vs → R F' w x vs
  bound : ∀ {F : Nat → Prop} {w : World} {x vs}, R F w x vs → R (fun b => F b ∧ b < w.heap.size) w x vs
  move : ∀ {F : Nat → Prop} {w w1 : World} {x vs}, (∀ b, F b → w1.heap[b]? = w.heap[b]?) → R F w x vs → R F w1 x vs

section
variable {α : Type} {K : Kind α} {F F' : Nat → Prop} {w w1 : World}
theorem Kind.later {x : α} {vs : List Value} (hb : Below w.heap.size w w1) (h : K.R F w x vs) : K.R F w1 x vs :=
  K.mono (fun _ hb => hb.1) (K.move (fun b ⟨_, hlt⟩ => hb.block b hlt) (K.bound h))

/-- a row of elements from a place on -/
def Row (K : Kind α) (F : Nat → Prop) (w : World) (xs : List α) (b o : Nat) : Prop :=
  ∀ i (hi : i < xs.length), ∃ vs, K.R F w xs[i] vs ∧ ∀ j (hj : j < vs.length), w.cell? ⟨b, o + i * K.sz + j, none⟩ = some vs[j]
/-- a slice of elements, to be read -/
def Sl (K : Kind α) (F : Nat → Prop) (w : World) (xs : List α) (v : Value) : Prop :=
  ∃ A c, v = .slice A xs.length c ∧ xs.length ≤ c ∧ xs.length * K.by_ ≤ 140737488355328 ∧ (0 < xs.length → ∃ b o, A = some ⟨b, o, none⟩ ∧ F b ∧ Row K F w xs b o)

theorem Row.mono {xs : List α} {b o : Nat} (hF : ∀ b, F b → F' b) (h : Row K F w xs b o) : Row K F' w xs b o := fun i hi => by
  obtain ⟨vs, h1, h2⟩ := h i hi; exact ⟨vs, K.mono hF h1, h2⟩
theorem Sl.mono {xs : List α} {v : Value} (hF : ∀ b, F b → F' b) (h : Sl K F w xs v) : Sl K F' w xs v := by
  obtain ⟨A, c, e, h1, h2, h3⟩ := h
  refine ⟨A, c, e, h1, h2, fun hl => ?_⟩
  obtain ⟨b, o, e, hb, hr⟩ := h3 hl
  exact ⟨b, o, e, hF b hb, hr.mono hF⟩
theorem Row.move {xs : List α} {b o : Nat} (hb : F b) (hm : ∀ b, F b → w1.heap[b]? = w.heap[b]?) (h : Row K F w xs b o) : Row K F w1 xs b o := fun i hi => by
  obtain ⟨vs, h1, h2⟩ := h i hi
  exact ⟨vs, K.move hm h1, fun j hj => (cell_of_heap (hm b hb)).trans (h2 j hj)⟩
theorem Sl.move {xs : List α} {v : Value} (hm : ∀ b, F b → w1.heap[b]? = w.heap[b]?) (h : Sl K F w xs v) : Sl K F w1 xs v := by
  obtain ⟨A, c, e, h1, h2, h3⟩ := h
  refine ⟨A, c, e, h1, h2, fun hl => ?_⟩
  obtain ⟨b, o, e, hb, hr⟩ := h3 hl
  exact ⟨b, o, e, hb, hr.move hb hm⟩
theorem Sl.bound {xs : List α} {v : Value} (h : Sl K F w xs v) : Sl K (fun b => F b ∧ b < w.heap.size) w xs v := by
  obtain ⟨A, c, e, h1, h2, h3⟩ := h
  refine ⟨A, c, e, h1, h2, fun hl => ?_⟩
  obtain ⟨b, o, e, hb, hr⟩ := h3 hl
  refine ⟨b, o, e, ⟨hb, ?_⟩, fun i hi => ?_⟩
  · obtain ⟨vs, k1, k2⟩ := hr 0 hl
    have := K.len k1; have := K.pos
    exact World.block_lt_of_cell? w _ (k2 0 (by omega))
  · obtain ⟨vs, k1, k2⟩ := hr i hi
    exact ⟨vs, K.bound k1, k2⟩
theorem Sl.later {xs : List α} {v : Value} (hb : Below w.heap.size w w1) (h : Sl K F w xs v) : Sl K F w1 xs v :=
  Sl.mono (fun _ hb => hb.1) (Sl.move (fun b ⟨_, hlt⟩ => hb.block b hlt) h.bound)
theorem Sl.nil (K : Kind α) (F : Nat → Prop) (w : World) : Sl K F w [] (.slice none 0 0) := ⟨none, 0, rfl, by simp, by simp, fun h => by simp at h⟩
theorem Sl.shape {xs : List α} {v : Value} (h : Sl K F w xs v) : ∃ A c, v = .slice A xs.length c ∧ xs.length ≤ c ∧ xs.length * K.by_ ≤ 140737488355328 := by
  obtain ⟨A, c, e, h1, h2, _⟩ := h; exact ⟨A, c, e, h1, h2⟩
/-- where a slice's elements lie -/
theorem Sl.get {xs : List α} {A : Option Addr} {n c : Nat} (h : Sl K F w xs (.slice A n c)) (hl : 0 < xs.length) :
    ∃ b o, A = some ⟨b, o, none⟩ ∧ F b ∧ b < w.heap.size ∧ ∀ i (hi : i < xs.length), ∃ vs, K.R F w xs[i] vs ∧ ∀ j (hj : j < vs.length), w.cell? ⟨b, o + i * K.sz + j, none⟩ = some vs[j] := by
  obtain ⟨A', c', e, h1, h2, h3⟩ := h
  cases e
  obtain ⟨b, o, e, hb, hr⟩ := h3 hl
  refine ⟨b, o, e, hb, ?_, hr⟩
  obtain ⟨vs, k1, k2⟩ := hr 0 hl
  have := K.len k1; have := K.pos
  exact World.block_lt_of_cell? w _ (k2 0 (by omega))
end

/-! ### terms -/
/-- w holds a term: its head's cell and its arguments' cell. -/
inductive IsF (F : Nat → Prop) (w : World) : T → Value → Value → Prop
  | mk {h : Int} {ar : List T} {A : Option Addr} {c : Nat} {f g : Nat → Value} : I64 h → ar.length ≤ c → ar.length * 32 ≤ 140737488355328 →
      (0 < ar.length → ∃ b o, A = some ⟨b, o, none⟩ ∧ F b ∧ ∀ i, i < ar.length → w.cell? ⟨b, o + i * 2, none⟩ = some (f i) ∧ w.cell? ⟨b, o + i * 2 + 1, none⟩ = some (g i)) →
      (∀ i (hi : i < ar.length), IsF F w ar[i] (f i) (g i)) → IsF F w (.mk h ar) (.int .i64 h) (.slice A ar.length c)
theorem IsF.mono {F F' : Nat → Prop} {w : World} {t : T} {x y : Value} (hF : ∀ b, F b → F' b) (h : IsF F w t x y) : IsF F' w t x y := by
  induction h with
  | mk h1 h2 h3 h4 _ ih =>
    refine .mk h1 h2 h3 (fun hl => ?_) ih
    obtain ⟨b, o, e, hb, hc⟩ := h4 hl
    exact ⟨b, o, e, hF b hb, hc⟩
theorem IsF.move {F : Nat → Prop} {w w1 : World} {t : T} {x y : Value} (hm : ∀ b, F b → w1.heap[b]? = w.heap[b]?) (h : IsF F w t x y) : IsF F w1 t x y := by
  induction h with
  | mk h1 h2 h3 h4 _ ih =>
    refine .mk h1 h2 h3 (fun hl => ?_) ih
    obtain ⟨b, o, e, hb, hc⟩ := h4 hl
    exact ⟨b, o, e, hb, fun i hi => ⟨(cell_of_heap (hm b hb)).trans (hc i hi).1, (cell_of_heap (hm b hb)).trans (hc i hi).2⟩⟩
theorem IsF.bound {F : Nat → Prop} {w : World} {t : T} {x y : Value} (h : IsF F w t x y) : IsF (fun b => F b ∧ b < w.heap.size) w t x y := by
  induction h with
  | mk h1 h2 h3 h4 _ ih =>
    refine .mk h1 h2 h3 (fun hl => ?_) ih
    obtain ⟨b, o, e, hb, hc⟩ := h4 hl
    exact ⟨b, o, e, ⟨hb, World.block_lt_of_cell? w _ (hc 0 hl).1⟩, hc⟩
theorem IsF.cells {F : Nat → Prop} {w : World} {t : T} {x y : Value} (h : IsF F w t x y) : x.oneCell' = true ∧ y.oneCell' = true := by cases h; exact ⟨rfl, rfl⟩

/-- terms as elements -/
def KT : Kind T where
  sz := 2
  by_ := 32
  pos := by decide
  bpos := by decide
  R F w t vs := ∃ x y, vs = [x, y] ∧ IsF F w t x y
  len h := by obtain ⟨x, y, rfl, _⟩ := h; rfl
  one h := by
    obtain ⟨x, y, rfl, h⟩ := h
    intro u hu
    simp only [List.mem_cons, List.not_mem_nil, or_false] at hu
    rcases hu with rfl | rfl
    · exact h.cells.1
    · exact h.cells.2
  mono hF h := by obtain ⟨x, y, e, h⟩ := h; exact ⟨x, y, e, h.mono hF⟩
  bound h := by obtain ⟨x, y, e, h⟩ := h; exact ⟨x, y, e, h.bound⟩
  move hm h := by obtain ⟨x, y, e, h⟩ := h; exact ⟨x, y, e, h.move hm⟩

theorem IsF.sl {F : Nat → Prop} {w : World} {t : T} {x y : Value} (h : IsF F w t x y) : x = .int .i64 t.head ∧ I64 t.head ∧ Sl KT F w t.args y := by
  cases h with
  | mk h1 h2 h3 h4 h5 =>
    refine ⟨rfl, h1, _, _, rfl, h2, h3, fun hl => ?_⟩
    obtain ⟨b, o, e, hb, hc⟩ := h4 hl
    refine ⟨b, o, e, hb, fun i hi => ⟨[_, _], ⟨_, _, rfl, h5 i hi⟩, fun j hj => ?_⟩⟩
    have : j = 0 ∨ j = 1 := by simp at hj; omega
    rcases this with rfl | rfl
    · exact (hc i hi).1
    · exact (hc i hi).2
theorem Sl.term {F : Nat → Prop} {w : World} {h : Int} {l : List T} {v : Value} (hl : Sl KT F w l v) (hh : I64 h) : IsF F w (.mk h l) (.int .i64 h) v := by
  obtain ⟨A, c, rfl, h1, h2, h3⟩ := hl
  by_cases hp : 0 < l.length
  · obtain ⟨b, o, rfl, hb, hr⟩ := h3 hp
    have key : ∀ i, ∃ x y, ∀ (hi : i < l.length), IsF F w l[i] x y ∧ w.cell? ⟨b, o + i * 2, none⟩ = some x ∧ w.cell? ⟨b, o + i * 2 + 1, none⟩ = some y := by
      intro i
      by_cases hi : i < l.length
      · obtain ⟨vs, ⟨x, y, rfl, hx⟩, hc⟩ := hr i hi
        exact ⟨x, y, fun _ => ⟨hx, hc 0 (by simp), hc 1 (by simp)⟩⟩
      · exact ⟨undef, undef, fun h => absurd h hi⟩
    have ⟨f, hf⟩ := Classical.axiomOfChoice key
    have ⟨g, hg⟩ := Classical.axiomOfChoice hf
    exact .mk hh h1 h2 (fun _ => ⟨b, o, rfl, hb, fun i hi => (hg i hi).2⟩) fun i hi => (hg i hi).1
  · exact .mk (f := fun _ => undef) (g := fun _ => undef) hh h1 h2 (fun h => absurd h hp) fun i hi => absurd hi (by omega)

theorem IsF.parts {F : Nat → Prop} {w : World} {t : T} {x y : Value} (h : IsF F w t x y) : x = .int .i64 t.head ∧ I64 t.head ∧ Sl KT F w t.args y := h.sl
theorem Sl.shapeT {F : Nat → Prop} {w : World} {l : List T} {v : Value} (h : Sl KT F w l v) : ∃ A c, v = .slice A l.length c ∧ l.length ≤ c ∧ l.length * 32 ≤ 140737488355328 := h.shape

/-- a term, and a row of terms, as values: whatever blocks they lean on -/
abbrev Any : Nat → Prop := fun _ => True
def VF (F : Nat → Prop) (w : World) (t : T) (v : Value) : Prop := ∃ x y, v = .agg #[x, y] ∧ IsF F w t x y
abbrev IsT (w : World) := IsF Any w
abbrev IsV (w : World) := VF Any w
abbrev IsL (w : World) (l : List T) (v : Value) := Sl KT Any w l v

theorem IsF.later {F : Nat → Prop} {w w1 : World} (hb : Below w.heap.size w w1) {t : T} {x y : Value} (h : IsF F w t x y) : IsF F w1 t x y :=
  IsF.mono (fun _ hb => hb.1) (IsF.move (fun b ⟨_, hlt⟩ => hb.block b hlt) h.bound)
theorem VF.later {F : Nat → Prop} {w w1 : World} {t : T} {v : Value} (h : VF F w t v) (hb : Below w.heap.size w w1) : VF F w1 t v := by
  obtain ⟨x, y, e, h⟩ := h; exact ⟨x, y, e, h.later hb⟩
theorem VF.mono {F F' : Nat → Prop} {w : World} {t : T} {v : Value} (h : VF F w t v) (hF : ∀ b, F b → F' b) : VF F' w t v := by
  obtain ⟨x, y, e, h⟩ := h; exact ⟨x, y, e, h.mono hF⟩
theorem VF.any {F : Nat → Prop} {w : World} {t : T} {v : Value} (h : VF F w t v) : IsV w t v := h.mono fun _ _ => trivial
theorem VF.of_ {F : Nat → Prop} {w : World} {t : T} {x y : Value} (h : IsF F w t x y) : VF F w t (.agg #[x, y]) := ⟨x, y, rfl, h⟩
theorem VF.cells {F : Nat → Prop} {w : World} {t : T} {x y : Value} (h : VF F w t (.agg #[x, y])) : IsF F w t x y := by
  obtain ⟨_, _, e, h⟩ := h; cases e; exact h
/-- where a row's terms lie -/
theorem Sl.cells {F : Nat → Prop} {w : World} {l : List T} {A : Option Addr} {n c : Nat} (h : Sl KT F w l (.slice A n c)) (hl : 0 < l.length) :
    ∃ b o, A = some ⟨b, o, none⟩ ∧ F b ∧ b < w.heap.size ∧ ∀ i (hi : i < l.length), ∃ x y, w.cell? ⟨b, o + i * 2, none⟩ = some x ∧ w.cell? ⟨b, o + i * 2 + 1, none⟩ = some y ∧ IsF F w l[i] x y := by
  obtain ⟨b, o, e, hb, hlt, hr⟩ := h.get hl
  refine ⟨b, o, e, hb, hlt, fun i hi => ?_⟩
  obtain ⟨vs, ⟨x, y, rfl, hx⟩, hc⟩ := hr i hi
  exact ⟨x, y, hc 0 (by simp), hc 1 (by simp), hx⟩

/-! ### rows of the call's own -/
/-- A row that the call itself builds, in a block from base on; its elements do not lean on it. -/
def Own {α : Type} (K : Kind α) (E : TypeId) (F : Nat → Prop) (base : Nat) (w : World) (v : Value) (xs : List α) : Prop :=
  ∃ cs, w.ownsRow base E K.sz v xs.length cs ∧ xs.length * K.by_ ≤ 140737488355328 ∧
    ∀ i (hi : i < xs.length), ∃ vs, K.R (fun b => F b ∧ some b ≠ v.ownBlock) w xs[i] vs ∧ ∀ j (hj : j < vs.length), cs[i * K.sz + j]? = some vs[j]
section
variable {α : Type} {K : Kind α} {E : TypeId} {F F' : Nat → Prop} {base : Nat} {w w1 : World} {v : Value} {xs : List α}
theorem Own.nil (K : Kind α) (E : TypeId) (F : Nat → Prop) (base : Nat) (w : World) : Own K E F base w (.slice none 0 0) [] :=
  ⟨[], ⟨by simp, .inl ⟨rfl, rfl⟩⟩, by simp, fun i hi => absurd hi (by simp)⟩
theorem Own.block (h : Own K E F base w v xs) : ∀ k, v.ownBlock = some k → base ≤ k ∧ k < w.heap.size := by
  obtain ⟨cs, h1, _⟩ := h; exact h1.lt
theorem Own.shape (h : Own K E F base w v xs) : ∃ A c, v = .slice A xs.length c := by
  obtain ⟨cs, h1, _⟩ := h
  rcases h1.2 with ⟨rfl, hn⟩ | ⟨g, cap, cur, rfl, _⟩
  · exact ⟨none, 0, by rw [hn]⟩
  · exact ⟨_, cap, rfl⟩
theorem Own.len (h : Own K E F base w v xs) : xs.length * K.by_ ≤ 140737488355328 := by obtain ⟨_, _, h, _⟩ := h; exact h
theorem Own.mono (hF : ∀ b, F b → F' b) (h : Own K E F base w v xs) : Own K E F' base w v xs := by
  obtain ⟨cs, h1, h2, h3⟩ := h
  refine ⟨cs, h1, h2, fun i hi => ?_⟩
  obtain ⟨vs, k1, k2⟩ := h3 i hi
  exact ⟨vs, K.mono (fun b hb => ⟨hF b hb.1, hb.2⟩) k1, k2⟩
theorem Own.move (hm : ∀ b, F b → some b ≠ v.ownBlock → w1.heap[b]? = w.heap[b]?) (hg : ∀ g, v.ownBlock = some g → w1.heap[g]? = w.heap[g]?) (h : Own K E F base w v xs) : Own K E F base w1 v xs := by
  obtain ⟨cs, ⟨h0, h1⟩, h2, h3⟩ := h
  refine ⟨cs, ⟨h0, ?_⟩, h2, fun i hi => ?_⟩
  · rcases h1 with h1 | ⟨g, cap, cur, e, r1, r2, r3⟩
    · exact .inl h1
    · exact .inr ⟨g, cap, cur, e, r1, (hg g (by rw [e]; rfl)).trans r2, r3⟩
  · obtain ⟨vs, k1, k2⟩ := h3 i hi
    exact ⟨vs, K.move (fun b hb => hm b hb.1 hb.2) k1, k2⟩
theorem Own.bound (h : Own K E F base w v xs) : Own K E (fun b => F b ∧ b < w.heap.size) base w v xs := by
  obtain ⟨cs, h1, h2, h3⟩ := h
  refine ⟨cs, h1, h2, fun i hi => ?_⟩
  obtain ⟨vs, k1, k2⟩ := h3 i hi
  exact ⟨vs, K.mono (fun b hb => ⟨⟨hb.1.1, hb.2⟩, hb.1.2⟩) (K.bound k1), k2⟩
theorem Own.later (hb : Below w.heap.size w w1) (h : Own K E F base w v xs) : Own K E F base w1 v xs :=
  (h.bound.move (fun b ⟨_, hlt⟩ _ => hb.block b hlt) (fun g hg => hb.block g (h.block g hg).2)).mono fun _ h => h.1
/-- whatever was not touched -/
theorem Own.grown {row : Option Nat} (hg : w.grownBy w1 row) (hr : ∀ k, row = some k → ¬ F k ∧ v.ownBlock ≠ some k) (h : Own K E F base w v xs) : Own K E F base w1 v xs :=
  (h.bound.move (fun b ⟨hF, hlt⟩ _ => hg.block b hlt (fun e => (hr b e.symm).1 hF)) (fun g hgb => hg.block g (h.block g hgb).2 (fun e => (hr g e.symm).2 hgb))).mono fun _ h => h.1
/-- done: the row is read -/
theorem Own.sl (h : Own K E F base w v xs) : Sl K (fun b => F b ∨ some b = v.ownBlock) w xs v := by
  obtain ⟨cs, h1, h2, h3⟩ := h
  obtain ⟨h0, h1'⟩ := id h1
  rcases h1' with ⟨rfl, hn⟩ | ⟨g, cap, cur, rfl, r1, r2, r3, r4, r5, r6⟩
  · refine ⟨none, 0, by rw [hn], by omega, by rw [hn]; simp, fun h => by omega⟩
  · refine ⟨_, cap, rfl, r3, h2, fun _ => ⟨g, 0, rfl, .inr rfl, fun i hi => ?_⟩⟩
    obtain ⟨vs, k1, k2⟩ := h3 i hi
    refine ⟨vs, K.mono (fun b hb => .inl hb.1) k1, fun j hj => ?_⟩
    have hvl := K.len k1
    have hlt : i * K.sz + j < xs.length * K.sz := by
      have : (i + 1) * K.sz ≤ xs.length * K.sz := Nat.mul_le_mul_right _ hi
      rw [Nat.add_mul, Nat.one_mul] at this; omega
    rw [show 0 + i * K.sz + j = i * K.sz + j from by omega, h1.cellAt _ hlt]
    exact k2 j hj
end

theorem row_of_block {α : Type} {K : Kind α} {F : Nat → Prop} {w : World} {x : α} {ys : List Value} (h : K.R F w x ys) (E : TypeId) : Row K F (w.alloc (.cells ys.toArray E)) [x] w.heap.size 0 := by
  intro i hi
  obtain rfl : i = 0 := by simpa using hi
  refine ⟨ys, K.later ((Below.refl _ _).alloc (Nat.le_refl _) _) h, fun j hj => ?_⟩
  refine cell_new _ _ _ _ ?_
  simp [hj]

section
variable {P : Program} {ops : Array Oper} {rest : List Oper} {o : Oper} {a : Act} {Q : Exit → Act → World → Prop}
/-- 'append(v, y..)' where v is a row of the call's own, y a row that lies elsewhere. -/
theorem wp_append {α : Type} {K : Kind α} {F F1 : Nat → Prop} {W : World} (base : Nat) (hgd : o.guard = none) (s x : Operand) (t E : TypeId) (z : Value)
    (ho : o.op = .call { callee := .builtin .append, args := #[s, x], argTypes := #[t, t] }) (ht : P.underlying t = some (.slice E)) (hinfo : (P.info? E).map (fun i => (i.zero, i.size, i.bytes)) = some (some z, K.sz, K.by_)) (hz : z.cells.size = K.sz)
    (v : Value) (xs ys : List α) (hs : a.eval s = v) (b q c : Nat) (hx : a.eval x = .slice (some ⟨b, q, none⟩) ys.length c) (HO : Own K E F base W v xs) (HR : Row K F1 W ys b q) (hF : ∀ k, F1 k → k < W.heap.size → F k ∧ some k ≠ v.ownBlock)
    (hl : (xs.length + ys.length) * K.by_ ≤ 140737488355328) (hbase : base ≤ W.heap.size)
    (h : ∀ v1 w1, Own K E F base w1 v1 (xs ++ ys) → W.grownBy w1 v.ownBlock → (v1.ownBlock = v.ownBlock ∨ v1.ownBlock = some W.heap.size) → (0 < xs.length + ys.length → ∃ g cap, v1 = .slice (some ⟨g, 0, none⟩) (xs.length + ys.length) cap) → wpList P ops Q rest (a.put o.dst v1) w1) :
    wpList P ops Q (o :: rest) a W := by
  obtain ⟨i0, hi, hzz⟩ := Option.map_eq_some_iff.1 hinfo
  simp only [Prod.mk.injEq] at hzz
  obtain ⟨hz0, hz1, hz2⟩ := hzz
  have hlen : xs.length + ys.length ≤ 140737488355328 := Nat.le_trans (Nat.le_mul_of_pos_right _ K.bpos) hl
  have HB := HO.block
  obtain ⟨cs, hown, h2, h3⟩ := HO
  -- the new cells
  have key : ∀ i, ∃ vs : List Value, ∀ hi : i < ys.length, K.R F1 W ys[i] vs ∧ ∀ j (hj : j < vs.length), W.cell? ⟨b, q + i * K.sz + j, none⟩ = some vs[j] := by
    intro i
    by_cases hi : i < ys.length
    · obtain ⟨vs, k⟩ := HR i hi; exact ⟨vs, fun _ => k⟩
    · exact ⟨[], fun h => absurd h hi⟩
  obtain ⟨f, hf⟩ := Classical.axiomOfChoice key
  let news : List Value := (List.range (ys.length * K.sz)).map fun n => (f (n / K.sz)).getD (n % K.sz) undef
  have hpos := K.pos
  have hget : ∀ n, n < ys.length * K.sz → ∃ hi : n / K.sz < ys.length, ∃ hj : n % K.sz < (f (n / K.sz)).length, news[n]? = some (f (n / K.sz))[n % K.sz] := by
    intro n hn
    have hi : n / K.sz < ys.length := by rw [Nat.div_lt_iff_lt_mul hpos]; exact hn
    have hfl := K.len (hf _ hi).1
    have hj : n % K.sz < (f (n / K.sz)).length := by rw [hfl]; exact Nat.mod_lt _ hpos
    refine ⟨hi, hj, ?_⟩
    simp only [news, List.getElem?_map, List.getElem?_range hn, Option.map_some]
    rw [List.getD_eq_getElem?_getD, List.getElem?_eq_getElem hj]; rfl
  have hnl : news.length = ys.length * K.sz := by simp [news]
  refine wpList_append_own_at W hgd s x t ho base E i0 z K.sz K.by_ ht hi hz0 hz1 hz2 hz hpos v xs.length cs hs hown ⟨b, q, none⟩ ys.length c news hx hnl (fun j u hju => ?_) (fun u hu => ?_) (by simp only [maxLen]; omega) hl hbase ?_
  · have hj : j < ys.length * K.sz := by rw [← hnl]; exact (List.getElem?_eq_some_iff.1 hju).1
    obtain ⟨hi', hj', hn⟩ := hget j hj
    rw [hn] at hju; cases hju
    have := (hf _ hi').2 _ hj'
    have e : (⟨b, q, none⟩ : Addr).add j = ⟨b, q + (j / K.sz) * K.sz + j % K.sz, none⟩ := by
      have := Nat.div_add_mod j K.sz
      rw [Nat.mul_comm] at this
      unfold Addr.add
      split
      · rename_i h0; subst h0; simp
      · simp only [Addr.mk.injEq, true_and, and_true]; omega
    rw [e]; exact this
  · obtain ⟨n, hn, rfl⟩ := List.mem_iff_getElem.1 hu
    have hn' : n < ys.length * K.sz := by rw [← hnl]; exact hn
    obtain ⟨hi', hj', hnn⟩ := hget n hn'
    rw [List.getElem?_eq_getElem hn] at hnn
    rw [Option.some.inj hnn]
    exact K.one (hf _ hi').1 _ (List.getElem_mem _)
  · intro v1 w1 hown1 hg hnil hat
    have keepF : ∀ {k : Nat}, F k ∧ some k ≠ v.ownBlock → k < W.heap.size → w1.heap[k]? = W.heap[k]? ∧ some k ≠ v1.ownBlock := by
      intro k hk hlt
      refine ⟨hg.block k hlt hk.2, fun e => ?_⟩
      rcases hat with e' | e'
      · rw [e'] at e; exact hk.2 e
      · rw [e'] at e; cases e; omega
    have hcl : cs.length = xs.length * K.sz := hown.1
    refine h v1 w1 ⟨cs ++ news, by simpa using hown1, by simpa using hl, fun i hi => ?_⟩ hg hat (fun hp => ?_)
    · simp only [List.length_append] at hi
      by_cases c : i < xs.length
      · obtain ⟨vs, k1, k2⟩ := h3 i c
        refine ⟨vs, ?_, fun j hj => ?_⟩
        · rw [List.getElem_append_left c]
          exact K.mono (fun k hk => ⟨hk.1.1, (keepF hk.1 hk.2).2⟩) (K.move (fun k hk => (keepF hk.1 hk.2).1) (K.bound k1))
        · have hvl := K.len k1
          have hlt : i * K.sz + j < cs.length := by
            have : (i + 1) * K.sz ≤ xs.length * K.sz := Nat.mul_le_mul_right _ c
            rw [Nat.add_mul, Nat.one_mul] at this; omega
          rw [List.getElem?_append_left hlt]; exact k2 j hj
      · have hi2 : i - xs.length < ys.length := by omega
        obtain ⟨k1, k2⟩ := hf (i - xs.length) hi2
        refine ⟨f (i - xs.length), ?_, fun j hj => ?_⟩
        · rw [List.getElem_append_right (by omega)]
          exact K.mono (fun k hk => ⟨(hF k hk.1 hk.2).1, (keepF (hF k hk.1 hk.2) hk.2).2⟩) (K.move (fun k hk => (keepF (hF k hk.1 hk.2) hk.2).1) (K.bound k1))
        · have hvl := K.len k1
          have hsub : i * K.sz = xs.length * K.sz + (i - xs.length) * K.sz := by rw [← Nat.add_mul]; congr 1; omega
          have hlt2 : (i - xs.length) * K.sz + j < ys.length * K.sz := by
            have : (i - xs.length + 1) * K.sz ≤ ys.length * K.sz := Nat.mul_le_mul_right _ hi2
            rw [Nat.add_mul, Nat.one_mul] at this; omega
          rw [List.getElem?_append_right (by omega), show i * K.sz + j - cs.length = (i - xs.length) * K.sz + j from by omega]
          obtain ⟨a1, a2, a3⟩ := hget _ hlt2
          rw [a3]
          have d1 : ((i - xs.length) * K.sz + j) / K.sz = i - xs.length := by
            rw [Nat.mul_comm, Nat.mul_add_div hpos, Nat.div_eq_of_lt (by omega)]; omega
          have d2 : ((i - xs.length) * K.sz + j) % K.sz = j := by
            rw [Nat.mul_comm, Nat.mul_add_mod, Nat.mod_eq_of_lt (by omega)]
          simp only [d1, d2]
    · rcases hown1.2 with ⟨_, hn⟩ | ⟨g, cap, cur, e, _⟩
      · omega
      · exact ⟨g, cap, e⟩
end
end Go.Proofs.Ytokhnlhffnidmaa
