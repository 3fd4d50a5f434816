/- An append to a row of the call's own, in a region that draws its order. -/
import Derived.Test.YtokhnlhffnidmaaMixJ
import Derived.Test.YtokhnlhffnidmaaRefF
namespace Go.Proofs.Ytokhnlhffnidmaa
open Go.RowKit Elen

theorem upon1_push {P : Program} {o : Oper} {ρ : Operand → Value} {R : Value → World → Prop} {W : World} (base : Nat) (s x : Operand) (t E : TypeId) (z : Value) (size bytes : Nat)
    (ho : o.op = .call { callee := .builtin .append, args := #[s, x], argTypes := #[t, t] }) (ht : P.underlying t = some (.slice E)) (hinfo : (P.info? E).map (fun i => (i.zero, i.size, i.bytes)) = some (some z, size, bytes)) (hz : z.cells.size = size) (hpos : 0 < size) (hb1 : 0 < bytes)
    (v : Value) (n : Nat) (xs : List Value) (hs : ρ s = v) (hown : W.ownsRow base E size v n xs) (b c : Nat) (news : List Value) (hx : ρ x = .slice (some ⟨b, 0, none⟩) 1 c) (hl : news.length = size) (hblk : W.heap[b]? = some (.cells news.toArray E (0, 0))) (h1 : ∀ u ∈ news, u.oneCell' = true)
    (hbytes : (n + 1) * bytes ≤ 140737488355328) (hbase : base ≤ W.heap.size)
    (h : ∀ v1 w1, w1.ownsRow base E size v1 (n + 1) (xs ++ news) → W.grownBy w1 v.ownBlock → (v1.ownBlock = v.ownBlock ∨ v1.ownBlock = some W.heap.size) → R v1 w1) :
    upon1 P R ((execOp ρ o).run P W) := by
  obtain ⟨i0, hi, hzz⟩ := Option.map_eq_some_iff.1 hinfo
  simp only [Prod.mk.injEq] at hzz
  obtain ⟨hz0, hz1, hz2⟩ := hzz
  have hlen : n + 1 ≤ 140737488355328 := Nat.le_trans (Nat.le_mul_of_pos_right _ hb1) hbytes
  obtain ⟨v', w', hr, h2, h3, h4, h5⟩ := run_append_own_at (P := P) W base t o.type E i0 z size bytes ht hi hz0 hz1 hz2 hz hpos v n xs hown ⟨b, 0, none⟩ 1 c news (by omega) (fun j u hju => by
    have e : (⟨b, 0, none⟩ : Addr).add j = ⟨b, j, none⟩ := by
      unfold Addr.add
      split
      · rename_i h0; subst h0; rfl
      · simp
    rw [e]
    exact cell_of_block hblk (by simpa using hju)) h1 (by simp only [maxLen]; omega) hbytes hbase
  unfold execOp
  simp only [ho, resolve, invoke, builtin, Sem.run_bind, Sem.run_pure, Result.andThen_ok, List.map_toArray, List.map_cons, List.map_nil, hs, hx, hr]
  exact h _ _ h2 h3 h5

/-- between the operations of such a region: 14 lays the new element, 15 appends it -/
structure PushI (w2 : World) (own : Option Nat) (base n : Nat) (xs : List Value) (q : Nat) (D : Nat → Bool) (us : Nat → Value) (W : World) : Prop where
  pre : D 15 = false → Below w2.heap.size w2 W
  v14 : D 14 = true → D 15 = false → ∃ b, us 14 = .slice (some ⟨b, 0, none⟩) 1 1 ∧ W.heap[b]? = some (.cells #[.int .i64 (q : Int)] 3 (0, 0))
  v15 : D 15 = true → ∃ Wx : World, Below w2.heap.size w2 Wx ∧ Wx.grownBy W own ∧ ((us 15).ownBlock = own ∨ (us 15).ownBlock = some Wx.heap.size) ∧ W.ownsRow base 3 1 (us 15) (n + 1) (xs ++ [.int .i64 (q : Int)])
section
variable {w2 W : World} {own : Option Nat} {base n q : Nat} {xs : List Value} {D : Nat → Bool} {us : Nat → Value}
theorem PushI.start (w2 : World) (own : Option Nat) (base n : Nat) (xs : List Value) (q : Nat) (us : Nat → Value) : PushI w2 own base n xs q (fun _ => false) us w2.drew :=
  ⟨fun _ => (Below.refl _ _).drew, fun h => (by cases h), fun h => (by cases h)⟩
theorem PushI.keep (h : PushI w2 own base n xs q D us W) (i : Nat) (v : Value) (h1 : i ≠ 14) (h2 : i ≠ 15) : PushI w2 own base n xs q (fun k => k == i || D k) (upd us i v) W where
  pre e := h.pre (by simpa [h2, Ne.symm h2] using e)
  v14 e e' := by
    obtain ⟨b, e1, e2⟩ := h.v14 (by simpa [h1, Ne.symm h1] using e) (by simpa [h2, Ne.symm h2] using e')
    exact ⟨b, by simp only [upd, if_neg (Ne.symm h1)]; exact e1, e2⟩
  v15 e := by
    have := h.v15 (by simpa [h2, Ne.symm h2] using e)
    simp only [upd, if_neg (Ne.symm h2)]
    exact this
theorem PushI.made (h : PushI w2 own base n xs q D us W) (h15 : D 15 = false) : PushI w2 own base n xs q (fun k => k == 14 || D k) (upd us 14 (.slice (some ⟨W.heap.size, 0, none⟩) 1 1)) (W.alloc (.cells #[.int .i64 (q : Int)] 3)) where
  pre _ := (h.pre h15).alloc (h.pre h15).size _
  v14 _ _ := ⟨W.heap.size, by simp only [upd, if_true], World.alloc_heap_new _ _⟩
  v15 e := by simp [h15] at e
theorem PushI.pushed (h : PushI w2 own base n xs q D us W) (h15 : D 15 = false) {v1 : Value} {w1 : World} (ho : w1.ownsRow base 3 1 v1 (n + 1) (xs ++ [.int .i64 (q : Int)])) (hg : W.grownBy w1 own) (hat : v1.ownBlock = own ∨ v1.ownBlock = some W.heap.size) : PushI w2 own base n xs q (fun k => k == 15 || D k) (upd us 15 v1) w1 where
  pre e := by simp at e
  v14 _ e := by simp at e
  v15 _ := ⟨W, h.pre h15, hg, by simp only [upd, if_true]; exact hat, by simp only [upd, if_true]; exact ho⟩
theorem PushI.heap (h : PushI w2 own base n xs q D us W) {k : Nat} (hk : k < w2.heap.size) (hne : some k ≠ own) : W.heap[k]? = w2.heap[k]? := by
  cases c : D 15 with
  | false => exact (h.pre c).block k hk
  | true =>
    obtain ⟨Wx, h1, h2, _⟩ := h.v15 c
    exact (h2.block k (Nat.lt_of_lt_of_le hk h1.size) hne).trans (h1.block k hk)
end
end Go.Proofs.Ytokhnlhffnidmaa
