/- The keys of a map from whole numbers, in their order. -/
import Derived.Test.YtokhnlhffnidmaaShp
import Derived.Test.YtokhnlhffnidmaaMp
import Derived.Test.YtokhnlhffnidmaaRefC
namespace Go.Proofs.Ytokhnlhffnidmaa
open Go.RowKit Go.Shelf Go.Maps Go.Sort Elen Go.WideElems

/-- the keys, in their order -/
def keysOf (D : Int → Option Value) : List Nat := (List.range 256).filter fun k => (D (k : Int)).isSome

theorem MapI.keys {w : World} {b n : Nat} {D : Int → Option Value} {E : DataW Value} (h : w.ownsMap Try.prog 3 tokR b n E) (hD : ∀ k, I64 k → toV (E.atKey (.int .i64 k) .nil) = D k) :
    (intKeys E).Nodup ∧ (∀ k, k ∈ intKeys E ↔ I64 k ∧ D k ≠ none) ∧ Maps.size E ≤ n := by
  have K := Maps.int_keyed Try.underlying3
  have hwf : ∀ x ∈ intKeys E, I64 x := fun x hx => by
    have hw := intKeys_wf h Try.underlying3 x hx
    have m1 : IntKind.i64.min = -9223372036854775808 := by decide
    have m2 : IntKind.i64.max = 9223372036854775807 := by decide
    simp only [Lit.wf, m1, m2, Bool.and_eq_true, decide_eq_true_eq] at hw
    exact hw
  have hmem : ∀ x, x ∈ intKeys E ↔ Maps.has E (.int .i64 x) = true := fun x => by
    obtain ⟨es, rfl, hko⟩ := h.keysOf
    rw [Maps.has_eq, List.any_eq_true]
    show x ∈ es.map (fun p => Go.intOf p.1) ↔ _
    rw [List.mem_map]
    constructor
    · rintro ⟨p, hp, rfl⟩
      obtain ⟨v, hv⟩ := hko p hp
      obtain ⟨y, _, hy, _⟩ := Maps.keyOf_i64 Try.underlying3 hv
      exact ⟨p, hp, by rw [hy]; simp [Lit.sameKey, Go.intOf]⟩
    · rintro ⟨p, hp, hs⟩
      obtain ⟨v, hv⟩ := hko p hp
      obtain ⟨y, _, hy, _⟩ := Maps.keyOf_i64 Try.underlying3 hv
      rw [hy] at hs
      exact ⟨p, hp, by rw [hy]; simpa [Lit.sameKey, Go.intOf] using hs⟩
  have hhas : ∀ x, I64 x → (Maps.has E (.int .i64 x) = true ↔ D x ≠ none) := fun x hx => by
    have hd := hD x hx
    obtain ⟨es, clock, hb, F, hs, rfl⟩ := h
    rcases Maps.fit_look true K Try.underlying100 (Try.zeroValue4 w) hb F (Maps.keyOf_int_mk Try.underlying3 (wf_i64 hx)) with ⟨_, _, hat⟩ | ⟨e0, y0, _, _, _, hR, hat, _⟩
    · rw [Maps.has_false_of_atKey hat, ← hd, hat]
      simp [toV]
    · rw [Maps.has_true_of_atKey hat, ← hd, hat]
      cases hR
      simp [toV]
  refine ⟨?_, fun k => ⟨fun hk => ⟨hwf k hk, (hhas k (hwf k hk)).1 ((hmem k).1 hk)⟩, fun ⟨hi, hk⟩ => (hmem k).2 ((hhas k hi).2 hk)⟩, ?_⟩
  · obtain ⟨es, hE, hp, _⟩ := h.entries K
    obtain ⟨es', hE', hko⟩ := h.keysOf
    obtain rfl : es = es' := by rw [hE] at hE'; simpa using hE'
    subst hE
    show (es.map fun p => Go.intOf p.1).Nodup
    refine List.pairwise_map.2 (hp.imp_of_mem fun {p q} hp' hq' hne e => hne ?_)
    obtain ⟨v, hv⟩ := hko p hp'
    obtain ⟨y, _, hy, _⟩ := Maps.keyOf_i64 Try.underlying3 hv
    obtain ⟨v', hv'⟩ := hko q hq'
    obtain ⟨y', _, hy', _⟩ := Maps.keyOf_i64 Try.underlying3 hv'
    rw [hy, hy'] at e ⊢
    exact congrArg _ e
  · obtain ⟨es, clock, hb, F, hs, rfl⟩ := h
    rw [Maps.size_eq, (Go.WideShapes.sorted_perm _).length_eq]
    simpa using hs

/-- sorted, the keys stand in one order -/
theorem sorted_keys {D : Int → Option Value} (hk : ∀ k x, D k = some x → 0 ≤ k ∧ k < 256) {l ss : List Int} (hnd : l.Nodup) (hm : ∀ k, k ∈ l ↔ I64 k ∧ D k ≠ none) (hp : ss.Perm l) : ss.mergeSort (fun x y => decide (x ≤ y)) = (keysOf D).map fun (k : Nat) => (k : Int) := by
  have tr : ∀ a b c : Int, (fun x y : Int => decide (x ≤ y)) a b = true → (fun x y : Int => decide (x ≤ y)) b c = true → (fun x y : Int => decide (x ≤ y)) a c = true := fun a b c h1 h2 => by simp only [decide_eq_true_eq] at *; omega
  have to : ∀ a b : Int, ((fun x y : Int => decide (x ≤ y)) a b || (fun x y : Int => decide (x ≤ y)) b a) = true := fun a b => by simp only [Bool.or_eq_true, decide_eq_true_eq]; omega
  refine List.Perm.eq_of_pairwise (le := fun a b : Int => a ≤ b) (fun a b _ _ h1 h2 => by omega) ?_ ?_ ?_
  · exact (List.pairwise_mergeSort tr to ss).imp (fun h => by simpa using h)
  · refine List.pairwise_map.2 ?_
    unfold keysOf
    refine List.Pairwise.filter _ ?_
    exact List.pairwise_lt_range.imp (fun h => by omega)
  · refine ((List.mergeSort_perm ss _).trans hp).trans ?_
    refine (List.perm_ext_iff_of_nodup hnd ?_).2 (fun k => ?_)
    · refine List.pairwise_map.2 ?_
      unfold keysOf
      refine List.Pairwise.filter _ ?_
      exact List.pairwise_lt_range.imp (fun h => by omega)
    · rw [hm k, List.mem_map]
      unfold keysOf
      simp only [List.mem_filter, List.mem_range]
      constructor
      · rintro ⟨hi, hd⟩
        cases e : D k with
        | none => exact absurd e hd
        | some x =>
          obtain ⟨h0, h1⟩ := hk k x e
          exact ⟨k.toNat, ⟨by omega, by rw [show ((k.toNat : Nat) : Int) = k from by omega, e]; rfl⟩, by omega⟩
      · rintro ⟨j, ⟨h1, h2⟩, rfl⟩
        exact ⟨by unfold I64; omega, fun e => by rw [e] at h2; cases h2⟩

/-- slices.Sort's two contracts at this program, at the fence that asks nothing. -/
theorem sortsA (m : Nat) : AnyZI.SortsIn Try.prog sortedA_ren Fence.wide m :=
  ⟨fun blk off cap ss W hH hblk hsz => callsIn_wide.2 (AnyM.slices_Sort_int sortA blk off cap ss W hH hblk hsz),
   fun p cap W => callsIn_wide.2 (AnyM.slices_Sort_int_none sortA p cap W)⟩

theorem keys_calls (mb : Nat) (w : World) :
    Calls Try.prog 33 #[.map (some mb)] w fun e w' => e = .returned (.func (.func 49) #[] #[.pointer (some ⟨w.heap.size, 0, none⟩)]) ∧ w' = w.alloc (.cells #[.map (some mb)] 44) :=
  (callsIn_wide (n := 5)).1 (AnyZI.keys_in keysA Fence.wide 5 trivial rfl (some mb) w)

theorem skeys_calls (mb n : Nat) (D : Int → Option Value) (w : World) (hm : MapI w mb n D) (hk : ∀ k x, D k = some x → 0 ≤ k ∧ k < 256) :
    Calls Try.prog 32 #[.func (.func 49) #[] #[.pointer (some ⟨w.heap.size, 0, none⟩)]] (w.alloc (.cells #[.map (some mb)] 44)) fun e w' => ∃ v, e = .returned v ∧ Sl KI (fun b => w.heap.size + 1 ≤ b) w' (keysOf D) v ∧ Below (w.heap.size + 1) (w.alloc (.cells #[.map (some mb)] 44)) w' := by
  have hm' := hm.cap hk
  obtain ⟨E, hown, hD⟩ := hm'
  obtain ⟨hnd, hmem, hsz⟩ := MapI.keys hown hD
  have hbl := hown.lt
  refine (callsIn_wide (n := 5)).1 ?_
  have hseq : SeqGives Fence.wide 2 Try.prog 49 #[.pointer (some ⟨w.heap.size, 0, none⟩)] encZ (fun ss => ss.Perm (intKeys E)) (Maps.size E) (w.alloc (.cells #[.map (some mb)] 44)) :=
    AnyZI.keys_gives (ρ := keysA_ren) { keysA with } Fence.wide _ trivial rfl (by omega) w.heap.size mb 256 E _ (by simp) (by simp) (by
      obtain ⟨es, clock, hb, Ft, hs, hD⟩ := hown
      exact ⟨es, clock, (Below.heap_alloc _ _ mb hbl).trans hb, Ft, hs, hD⟩)
  have cS := AnyZI.sorted_in sortedA Fence.wide 5 trivial trivial trivial trivial rfl (by omega) (sortsA _) (enters_of Try.func48 (by kernel_rfl) rfl) 49 #[.pointer (some ⟨w.heap.size, 0, none⟩)] trivial (enters_of Try.func49 (by kernel_rfl) rfl) _ _ (by simp only [maxLen]; omega) (by omega) _ hseq
  change CallsIn _ _ Try.prog 32 _ _ _ at cS
  refine cS.mono ?_
  rintro e w' ⟨v, ss, rfl, hS, hrow, hnil, hb⟩
  have hl := sorted_keys hk hnd hmem hS
  have hlen : ss.length = (keysOf D).length := by
    have := congrArg List.length hl
    simpa using this
  refine ⟨v, rfl, ?_, hb.mono (by simp)⟩
  change w'.ownsRow _ 3 1 v _ _ at hrow
  obtain ⟨hl1, ⟨rfl, h0⟩ | ⟨g, cap, cur, rfl, hg, hcell, hcap, hmax, hsz, htk⟩⟩ := hrow
  · have : keysOf D = [] := List.length_eq_zero_iff.1 (by omega)
    rw [this]
    exact Sl.nil _ _ _
  · rw [hlen]
    have hle : (keysOf D).length ≤ 256 := by
      unfold keysOf
      have := List.length_filter_le (fun k : Nat => (D (k : Int)).isSome) (List.range 256)
      simpa using this
    refine ⟨_, _, rfl, by omega, by have e : (KI).by_ = 8 := rfl; rw [e]; omega, fun hpos => ⟨g, 0, rfl, by simpa using hg, fun i hi => ⟨_, rfl, fun j hj => ?_⟩⟩⟩
    have hj0 : j = 0 := by simpa using hj
    subst hj0
    rw [hl] at htk
    have h1 : (cur.toList.take (ss.length * 1))[i]? = some (.int .i64 (((keysOf D)[i] : Nat) : Int)) := by
      rw [htk]
      simp [hi]
    rw [List.getElem?_take_of_lt (by omega)] at h1
    have e : (KI).sz = 1 := rfl
    rw [e]
    simp only [World.cell?, hcell, Nat.zero_add, Nat.mul_one, Nat.add_zero]
    simp only [Option.isSome_none, Bool.false_eq_true, if_false]
    rw [← Array.getElem?_toList, h1]
    rfl
end Go.Proofs.Ytokhnlhffnidmaa
