/- An argument that can be read as a term, or as a row of terms, is one. -/
import Derived.Test.YtokhnlhffnidmaaBase
import Derived.ProofKit
import Derived.SizedLaws
import Derived.Deep.Slices
namespace Go.Proofs.Ytokhnlhffnidmaa
open Go.ChangeShapes Go.WideShapes Go.ChangeAt Go.RowKit Elen

theorem Try.bytesT : Try.prog.bytesOf 24 = 32 := by kernel_rfl
theorem Try.cellsT : Try.prog.cellsOf 24 = 2 := by kernel_rfl
theorem Try.cellsI : Try.prog.cellsOf 3 = 1 := by kernel_rfl
theorem Try.cellsS : Try.prog.cellsOf 22 = 1 := by kernel_rfl

/-- no more bytes than a row may have -/
def Fits {H : Type} (t : TypeId) (d : DataW H) : Prop := ∀ n, n ∈ d.weights Try.prog t → n ≤ reachBytes
theorem mem_weightsAll {H : Type} {e : TypeId} {n : Nat} : ∀ {l : List (DataW H)} {d : DataW H}, d ∈ l → n ∈ d.weights Try.prog e → n ∈ DataW.weightsAll Try.prog e l
  | c :: l, d, h, hn => by
    simp only [DataW.weightsAll, List.mem_append]
    rcases List.mem_cons.1 h with rfl | h
    · exact .inl hn
    · exact .inr (mem_weightsAll h hn)

section
variable {H : Type} {enc : TypeId × Value → H} {W : World} {base : Nat}
/-- a slice of what is itself terms -/
theorem sl_of_trod {fuel : Nat} {y : Value} {x : DataW H × List MemPlace} (h : DataW.trod enc Try.prog W 0 (fun _ => true) true fuel 22 [y] = some x) (hw : Fits 22 x.1)
    (ih : ∀ (n : Nat) (a b : Value) (d : DataW H) (p : List MemPlace), SizeOf.sizeOf d < SizeOf.sizeOf x.1 → DataW.trod enc Try.prog W 0 (fun _ => true) true n 24 [a, b] = some (d, p) → Fits 24 d → ∃ t, IsF Any W t a b) :
    ∃ l, Sl KT Any W l y := by
  rcases Go.Deep.open_slice Try.underlying22 h with ⟨hc, _⟩ | ⟨a, len, cap, m, n, D, Pl, hc, _, hl, hcap, hm, rfl, hx⟩
  · cases hc
    exact ⟨[], Sl.nil _ _ _⟩
  · cases hc
    simp only [if_true] at hm
    subst hm
    have hb : (len + (m - len)) * 32 ≤ reachBytes := by
      have := hw ((((List.range len).map D).length + ((List.range (m - len)).map fun j => D (len + j)).length) * Try.prog.bytesOf 24) (by simp [DataW.weights, Try.underlying22])
      rw [Try.bytesT] at this
      simpa using this
    have hmem : ∀ i, i < len → D i ∈ (List.range len).map D := fun i hi => List.mem_map.2 ⟨i, List.mem_range.2 hi, rfl⟩
    have key : ∀ i, ∃ p : T × Value × Value, i < len → W.cell? (a.add (i * 2)) = some p.2.1 ∧ W.cell? ((a.add (i * 2)).add 1) = some p.2.2 ∧ IsF Any W p.1 p.2.1 p.2.2 := by
      intro i
      by_cases hi : i < len
      · obtain ⟨cs', h1, h2⟩ := hx i (by omega)
        rw [Try.cellsT] at h1
        obtain ⟨_, hlen, hc⟩ := World.cells?_some h1
        match cs', hlen with
        | [u, v], _ =>
          have c0 := hc 0 (by omega)
          have c1 := hc 1 (by omega)
          have e0 : (a.add (i * 2)).add 0 = a.add (i * 2) := by simp [Addr.add]
          rw [e0] at c0
          have hD := hmem i hi
          obtain ⟨t, ht⟩ := ih n u v (D i) (Pl i) (by have := List.sizeOf_lt_of_mem hD; simp only [DataW.slice.sizeOf_spec]; omega) h2 (fun k hk => hw k (by
            simp only [DataW.weights, Try.underlying22, List.mem_cons, List.mem_append]
            exact .inr (.inl (mem_weightsAll hD hk))))
          exact ⟨(t, u, v), fun _ => ⟨by simpa using c0, by simpa using c1, ht⟩⟩
      · exact ⟨(.mk 0 [], undef, undef), fun h => absurd h hi⟩
    obtain ⟨P, hP⟩ := Classical.axiomOfChoice key
    refine ⟨(List.range len).map fun i => (P i).1, some a, m, by simp, by simpa using hl, ?_, fun hp => ?_⟩
    · have e : (KT).by_ = 32 := rfl
      rw [e]
      simp only [List.length_map, List.length_range]
      have : reachBytes = 140737488351232 := rfl
      omega
    · have hp' : 0 < len := by simpa using hp
      obtain ⟨b, o, spot⟩ := a
      have hspot : spot = none := by
        have := World.cell?_spot (hP 0 hp').1
        simpa [Addr.add] using this
      subst hspot
      refine ⟨b, o, rfl, trivial, fun i hi => ?_⟩
      have hi' : i < len := by simpa using hi
      obtain ⟨c0, c1, ht⟩ := hP i hi'
      rw [add_plain] at c0 c1
      rw [add_plain] at c1
      have e : (KT).sz = 2 := rfl
      refine ⟨[(P i).2.1, (P i).2.2], ⟨_, _, rfl, by simpa using ht⟩, fun j hj => ?_⟩
      rw [e]
      have : j = 0 ∨ j = 1 := by simp at hj; omega
      rcases this with rfl | rfl
      · exact c0
      · exact c1
theorem term_of_trod : ∀ (z : Nat) (fuel : Nat) (a b : Value) (d : DataW H) (p : List MemPlace), SizeOf.sizeOf d < z → DataW.trod enc Try.prog W 0 (fun _ => true) true fuel 24 [a, b] = some (d, p) → Fits 24 d → ∃ t, IsF Any W t a b := by
  intro z
  induction z with
  | zero => intro fuel a b d p h; omega
  | succ z ih =>
    intro fuel a b d p hz h hw
    obtain ⟨y0, y1, n, hx, _, h0, h1⟩ := trod_struct2 Try.underlying24 h
    simp only [Prod.mk.injEq] at hx
    obtain ⟨rfl, rfl⟩ := hx
    simp only [Try.cellsI, Try.cellsS, List.drop_zero, List.take_succ_cons, List.take_zero, List.drop_succ_cons] at h0 h1
    obtain ⟨k, hk, e0, hkw⟩ := DataW.trod_int Try.underlying3 h0
    cases hk
    have hi : I64 k := by
      have m1 : IntKind.i64.min = -9223372036854775808 := by decide
      have m2 : IntKind.i64.max = 9223372036854775807 := by decide
      simp only [Lit.wf, m1, m2, Bool.and_eq_true, decide_eq_true_eq] at hkw
      exact hkw
    obtain ⟨l, hl⟩ := sl_of_trod h1 (fun m hm => hw m (by
      simp only [DataW.weights, Try.underlying24, List.map_cons, List.map_nil, DataW.weightsEach, List.mem_append]
      exact .inr (.inl hm))) (fun n' a' b' d' p' hs ht hf => ih n' a' b' d' p' (by
        simp only [DataW.agg.sizeOf_spec, List.cons.sizeOf_spec, List.nil.sizeOf_spec] at hz
        omega) ht hf)
    exact ⟨.mk k l, hl.term hi⟩
set_option maxRecDepth 100000 in
/-- the two shapes of an argument -/
theorem arg_term {v : Value} {d : DataW H} {p : List MemPlace} (hv : Value.okWide Try.prog W Reach.any base 24 v) (h : DataW.Trod enc Try.prog W 0 (fun _ => true) true 24 v d p) (hw : Fits 24 d) : ∃ t, IsV W t v := by
  obtain ⟨cs, rfl, hsz⟩ := okWide_struct Try.underlying24 hv
  rw [Try.cellsT] at hsz
  obtain ⟨c0, c1, rfl⟩ : ∃ c0 c1, cs = #[c0, c1] := by
    obtain ⟨l⟩ := cs
    match l, hsz with
    | [a, b], _ => exact ⟨a, b, rfl⟩
  obtain ⟨fuel, hf⟩ := h
  obtain ⟨t, ht⟩ := term_of_trod _ fuel c0 c1 d p (Nat.lt_succ_self _) hf hw
  exact ⟨t, _, _, rfl, ht⟩
set_option maxRecDepth 100000 in
theorem arg_row {v : Value} {d : DataW H} {p : List MemPlace} (hv : Value.okWide Try.prog W Reach.any base 22 v) (h : DataW.Trod enc Try.prog W 0 (fun _ => true) true 22 v d p) (hw : Fits 22 d) : ∃ l, IsL W l v := by
  obtain ⟨a, len, cap, rfl⟩ := okWide_slice Try.underlying22 hv
  obtain ⟨fuel, hf⟩ := h
  exact sl_of_trod (x := (d, p)) hf hw (fun n a b d' p' _ ht hf' => term_of_trod _ n a b d' p' (Nat.lt_succ_self _) ht hf')
end
end Go.Proofs.Ytokhnlhffnidmaa
