/- Maps from whole numbers that a call makes: what they hold, look-ups, stores. -/
import Derived.Test.YtokhnlhffnidmaaBase
import Derived.Maps.OwnOps
import Derived.Maps.Views
import Derived.Maps.Range
import Derived.Maps.RangeWalk
namespace Go.Proofs.Ytokhnlhffnidmaa
open Go.RowKit Elen Go.WideElems

/-- a value as it lies -/
def tokR (v : Value) : Option (DataW Value × List MemPlace) := some (.held v, [])
def toV : DataW Value → Option Value
  | .held v => some v
  | _ => none
/-- block b of w is a map of at most n entries that holds D -/
def MapI (w : World) (b n : Nat) (D : Int → Option Value) : Prop :=
  ∃ E : DataW Value, w.ownsMap Try.prog 3 tokR b n E ∧ ∀ k, I64 k → toV (E.atKey (.int .i64 k) .nil) = D k

theorem wf_i64 {k : Int} (h : I64 k) : (Lit.int .i64 k).wf = true := by
  obtain ⟨h1, h2⟩ := h
  have e1 : IntKind.i64.min = -9223372036854775808 := by decide
  have e2 : IntKind.i64.max = 9223372036854775807 := by decide
  simp only [Lit.wf, e1, e2, Bool.and_eq_true, decide_eq_true_eq]
  exact ⟨h1, h2⟩
theorem MapI.made (w : World) : MapI (w.alloc (.map #[] 0)) w.heap.size 0 (fun _ => none) :=
  ⟨.map [], World.ownsMap_made _ _ _ _, fun _ _ => rfl⟩
theorem MapI.lt {w : World} {b n : Nat} {D : Int → Option Value} (h : MapI w b n D) : b < w.heap.size := by
  obtain ⟨E, h, _⟩ := h; exact h.lt
theorem MapI.later {w w1 : World} {b n : Nat} {D : Int → Option Value} (h : MapI w b n D) (hb : w1.heap[b]? = w.heap[b]?) : MapI w1 b n D := by
  obtain ⟨E, ⟨es, clock, h1, h2⟩, h3⟩ := h
  exact ⟨E, ⟨es, clock, hb.trans h1, h2⟩, h3⟩
theorem MapI.below {w w1 : World} {b n : Nat} {D : Int → Option Value} (h : MapI w b n D) (hb : Below w.heap.size w w1) : MapI w1 b n D := h.later (hb.block b h.lt)
theorem MapI.kept {w w1 : World} {b n : Nat} {D : Int → Option Value} {row : Option Nat} (h : MapI w b n D) (hg : w.grownBy w1 row) (hr : row ≠ some b) : MapI w1 b n D := h.later (hg.block b h.lt (fun e => hr e.symm))
theorem MapI.mono {w : World} {b n n' : Nat} {D : Int → Option Value} (h : MapI w b n D) (hn : n ≤ n') : MapI w b n' D := by
  obtain ⟨E, h, h3⟩ := h; exact ⟨E, h.mono hn, h3⟩

/-- a look-up -/
theorem MapI.look {w : World} {b n : Nat} {D : Int → Option Value} (h : MapI w b n D) {t e : TypeId} (ht : Try.prog.underlying t = some (.map 3 e)) {z : Value} (hz : (zeroValue e).run Try.prog w = .ok z w) {k : Int} (hk : I64 k) (c : Bool) :
    (Instr.lookup t (.map (some b)) (.int .i64 k) c).run Try.prog w = .ok (if c then .tuple #[(D k).getD z, .bool (D k).isSome] else (D k).getD z) w := by
  obtain ⟨E, ⟨es, clock, hb, F, hs, rfl⟩, hD⟩ := h
  have hd := hD k hk
  rcases Maps.fit_look c (Maps.int_keyed Try.underlying3) ht hz hb F (Maps.keyOf_int_mk Try.underlying3 (wf_i64 hk)) with ⟨hrun, _, hat⟩ | ⟨e0, y, _, _, hrun, hRv, hat, _⟩
  · rw [hat] at hd
    rw [hrun, ← hd]
    rfl
  · rw [hat] at hd
    cases hRv
    rw [hrun, ← hd]
    rfl
theorem nodup_lt : ∀ (n : Nat) (l : List Nat), l.Nodup → (∀ x, x ∈ l → x < n) → l.length ≤ n := by
  intro n
  induction n with
  | zero => intro l _ h; cases l with
    | nil => simp
    | cons a l => have := h a (.head _); omega
  | succ n ih =>
    intro l hn h
    by_cases c : n ∈ l
    · have h1 := ih (l.erase n) (hn.erase n) (fun x hx => by
        have := (hn.mem_erase_iff).1 hx
        have := h x this.2
        omega)
      have h2 := List.length_erase_of_mem c
      omega
    · have := ih l hn (fun x hx => by
        have h1 := h x hx
        have : x ≠ n := fun e => c (e ▸ hx)
        omega)
      omega
/-- as many entries as there are keys that may be -/
theorem MapI.cap {w : World} {b n : Nat} {D : Int → Option Value} (h : MapI w b n D) (hk : ∀ k x, D k = some x → 0 ≤ k ∧ k < 256) : MapI w b 256 D := by
  obtain ⟨E, ⟨es, clock, hb, F, hs, rfl⟩, hD⟩ := h
  have K := Maps.int_keyed Try.underlying3
  have hkey : ∀ x, x ∈ es.toList → ∃ a : Int, x.key = .int .i64 a ∧ (rg Try.prog 3 tokR x).1 = .int .i64 a ∧ 0 ≤ a ∧ a < 256 := fun x hx => by
    obtain ⟨y, hy⟩ := F.reads x hx
    have h1 := WideElems.rd_key hy
    obtain ⟨a, e1, e2, hw⟩ := Maps.keyOf_int_inv Try.underlying3 h1
    have hi : I64 a := by
      have m1 : IntKind.i64.min = -9223372036854775808 := by decide
      have m2 : IntKind.i64.max = 9223372036854775807 := by decide
      simp only [Lit.wf, m1, m2, Bool.and_eq_true, decide_eq_true_eq] at hw
      exact hw
    refine ⟨a, e1, by rw [WideElems.rg_of hy, e2], ?_⟩
    have hd := hD a hi
    rcases Maps.fit_look true K Try.underlying100 (Try.zeroValue4 w) hb F (Maps.keyOf_int_mk Try.underlying3 (wf_i64 hi)) with ⟨_, hno, _⟩ | ⟨e0, y0, _, _, _, hR, hat, _⟩
    · exact absurd e1 (hno x hx)
    · rw [hat] at hd
      cases hR
      exact hk a _ hd.symm
  refine ⟨_, ⟨es, clock, hb, F, ?_, rfl⟩, hD⟩
  have hap := Maps.fit_apart K F
  have hl : (es.toList.map fun x => match x.key with | .int _ a => a.toNat | _ => 0).length ≤ 256 := by
    refine nodup_lt 256 _ ?_ ?_
    · rw [List.nodup_iff_pairwise_ne, List.pairwise_map]
      rw [List.pairwise_map] at hap
      refine List.Pairwise.imp_of_mem (fun {x y} hx hy hne => ?_) hap
      obtain ⟨a, e1, e2, a1, a2⟩ := hkey x hx
      obtain ⟨c, f1, f2, c1, c2⟩ := hkey y hy
      rw [e1, f1]
      intro e
      dsimp only at e
      apply hne
      rw [e2, f2, show a = c from by omega]
    · intro k hk'
      obtain ⟨x, hx, rfl⟩ := List.mem_map.1 hk'
      obtain ⟨a, e1, e2, a1, a2⟩ := hkey x hx
      rw [e1]
      dsimp only
      omega
  simpa using hl
/-- a store -/
theorem MapI.update {w : World} {b n : Nat} {D : Int → Option Value} (h : MapI w b n D) {t e : TypeId} (ht : Try.prog.underlying t = some (.map 3 e)) {k : Int} (hk : I64 k) (hn : n < maxLen) (v : Value) :
    ∃ w1, (Instr.mapUpdate t (.map (some b)) (.int .i64 k) v).run Try.prog w = .ok () w1 ∧ MapI w1 b (n + 1) (fun j => if j = k then some v else D j) ∧ w.grownBy w1 (some b) := by
  obtain ⟨E, h, hD⟩ := h
  have hE : Maps.IsMap E := by obtain ⟨es, clock, hb, F, hs, rfl⟩ := h; exact ⟨_, rfl⟩
  obtain ⟨w1, hrun, h1, hg⟩ := h.update (Maps.int_keyed Try.underlying3) ht hn (Maps.keyOf_int_mk Try.underlying3 (wf_i64 hk)) (val := v) rfl
  refine ⟨w1, hrun, ⟨_, h1, fun j hj => ?_⟩, hg⟩
  by_cases c : j = k
  · subst c
    rw [Maps.atKey_put_same hE (by trivial)]
    dsimp only
    rw [if_pos rfl]; rfl
  · rw [Maps.atKey_put_other (fun e => c (by cases e; rfl))]
    dsimp only
    rw [if_neg c]
    exact hD j hj
/-- a store, for the walk -/
theorem wp_put {ops : Array Oper} {rest : List Oper} {o : Oper} {a : Act} {Q : Exit → Act → World → Prop} {W : World} (hgd : o.guard = none) (m x v : Operand) (t e : TypeId) (ho : o.op = .mapUpdate t m x v)
    (ht : Try.prog.underlying t = some (.map 3 e)) (b n : Nat) (D : Int → Option Value) (hm : a.eval m = .map (some b)) (k : Int) (hx : a.eval x = .int .i64 k) (hk : I64 k) (u : Value) (hv : a.eval v = u) (h : MapI W b n D) (hn : n < maxLen)
    (hK : ∀ w1, MapI w1 b (n + 1) (fun j => if j = k then some u else D j) → W.grownBy w1 (some b) → wpList Try.prog ops Q rest (a.put o.dst undef) w1) : wpList Try.prog ops Q (o :: rest) a W := by
  refine wpList_plain hgd fun K' hK' => ?_
  obtain ⟨w1, hrun, r1, r2⟩ := h.update ht hk hn u
  unfold Oper.wp
  simp [execOp, ho, hm, hx, hv, hrun, Result.andThen]
  exact hK' _ _ (hK w1 r1 r2)
end Go.Proofs.Ytokhnlhffnidmaa
