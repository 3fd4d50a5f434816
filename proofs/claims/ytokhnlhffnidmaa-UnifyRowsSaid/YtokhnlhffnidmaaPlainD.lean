/- What the reference's net holds when terms have been put into it, without the program. -/
import Derived.Test.YtokhnlhffnidmaaPlainB
import Derived.Test.YtokhnlhffnidmaaPlainC
namespace Go.Proofs.Ytokhnlhffnidmaa.Elen

def addArg (N : List Nd) (i k : Nat) : List Nd := N.modify i fun x => { x with args := x.args ++ [k] }
mutual
def putP : List Nd → T → List Nd × Nat
  | N, .mk h ar => match (if h < 0 then N.findIdx? (fun x => x.head == h) else none) with
    | some i => (N, i)
    | none => (putL (N ++ [⟨h, [], -1⟩]) N.length ar, N.length)
def putL : List Nd → Nat → List T → List Nd
  | N, _, [] => N
  | N, i, a :: ar => putL (addArg (putP N a).1 i (putP N a).2) i ar
end

inductive DenX (n : List Nd) (X : Nat → Prop) : Nat → T → Prop
  | mk {i : Nat} {nd : Nd} {ts : List T} : ¬ X i → n[i]? = some nd → nd.args.length = ts.length → (∀ k (hk : k < nd.args.length) (hk' : k < ts.length), DenX n X nd.args[k] ts[k]) → DenX n X i (.mk nd.head ts)
theorem DenX.den {n : List Nd} {X : Nat → Prop} {i : Nat} {t : T} (h : DenX n X i t) : Den n i t := by
  induction h with
  | mk _ h1 h2 _ ih => exact .mk h1 h2 ih
theorem DenX.move {n n' : List Nd} {X X' : Nat → Prop} (hX : ∀ j, X' j → X j) (hn : ∀ j nd, ¬ X j → n[j]? = some nd → n'[j]? = some nd) {i : Nat} {t : T} (h : DenX n X i t) : DenX n' X' i t := by
  induction h with
  | mk h0 h1 h2 _ ih => exact .mk (fun h => h0 (hX _ h)) (hn _ _ h0 h1) h2 ih

/-- old parts that are no variables -/
def Old (n : List Nd) (j : Nat) : Prop := ∃ nd : Nd, n[j]? = some nd ∧ 0 ≤ nd.head
/-- n' is n and more -/
def Onto (n n' : List Nd) : Prop := ∀ (j : Nat) (nd : Nd), n[j]? = some nd → n'[j]? = some nd
theorem Onto.refl (n : List Nd) : Onto n n := fun _ _ h => h
theorem Onto.trans {a b c : List Nd} (h : Onto a b) (k : Onto b c) : Onto a c := fun j nd e => k j nd (h j nd e)
theorem Onto.old {n n' : List Nd} (h : Onto n n') {j : Nat} (ho : Old n j) : Old n' j := by
  obtain ⟨nd, e, h0⟩ := ho; exact ⟨nd, h j nd e, h0⟩
theorem Onto.len {n n' : List Nd} (h : Onto n n') : n.length ≤ n'.length := by
  by_cases c : n.length = 0
  · omega
  · have : n.length - 1 < n.length := by omega
    have := h _ _ (List.getElem?_eq_getElem this)
    have := (List.getElem?_eq_some_iff.1 this).1
    omega

/-- before anything is bound -/
structure Fresh (n : List Nd) : Prop where
  uniq : ∀ (i j : Nat) (x y : Nd), n[i]? = some x → n[j]? = some y → x.head < 0 → x.head = y.head → i = j
  leaf : ∀ (i : Nat) (x : Nd), n[i]? = some x → x.head < 0 → x.args = []
  to : ∀ (i : Nat) (x : Nd), n[i]? = some x → x.to = -1

theorem addArg_get (N : List Nd) (i j k : Nat) : (addArg N i k)[j]? = (N[j]?).map fun x => if j = i then { x with args := x.args ++ [k] } else x := by
  simp only [addArg, List.getElem?_modify]
  by_cases h : j = i
  · subst h; simp
  · have h' : ¬ i = j := fun e => h e.symm
    simp [h, h']

theorem Fresh.addArg {N : List Nd} {i k : Nat} (h : Fresh N) (hi : ∀ x, N[i]? = some x → 0 ≤ x.head) : Fresh (addArg N i k) := by
  have get : ∀ (j : Nat) (y : Nd), (Elen.addArg N i k)[j]? = some y → ∃ y0 : Nd, N[j]? = some y0 ∧ y.head = y0.head ∧ y.to = y0.to ∧ (j ≠ i → y.args = y0.args) := by
    intro j y hy
    rw [addArg_get] at hy
    obtain ⟨y0, e, rfl⟩ := Option.map_eq_some_iff.1 hy
    refine ⟨y0, e, ?_, ?_, ?_⟩
    · split <;> rfl
    · split <;> rfl
    · intro hne; rw [if_neg hne]
  refine ⟨fun a b x y hx hy h0 he => ?_, fun a x hx h0 => ?_, fun a x hx => ?_⟩
  · obtain ⟨x0, e1, e2, _⟩ := get a x hx
    obtain ⟨y0, f1, f2, _⟩ := get b y hy
    exact h.uniq a b x0 y0 e1 f1 (by omega) (by omega)
  · obtain ⟨x0, e1, e2, _, e4⟩ := get a x hx
    have : a ≠ i := by rintro rfl; have := hi x0 e1; omega
    rw [e4 this]; exact h.leaf a x0 e1 (by omega)
  · obtain ⟨x0, e1, _, e3, _⟩ := get a x hx
    rw [e3]; exact h.to a x0 e1

/-- all that is put: it lies there; what lay there lies on -/
structure Put (N N' : List Nd) (i : Nat) (t : T) : Prop where
  onto : Onto N N'
  fresh : Fresh N'
  den : DenX N' (Old N) i t
  all : ∀ j, N.length ≤ j → j < N'.length → ∃ u, DenX N' (Old N) j u ∧ T.good u = true
  low : i < N'.length
  small : N'.length ≤ N.length + t.size

theorem T.good_parts {h : Int} {ar : List T} (hg : T.good (.mk h ar) = true) : (h < 0 → ar = []) ∧ -256 ≤ h ∧ h ≤ 1023 ∧ ar.length ≤ 8 ∧ ∀ a, a ∈ ar → T.good a = true := by
  simp only [T.good, okHere, Bool.and_eq_true, Bool.not_eq_true', Bool.and_eq_false_iff, decide_eq_false_iff_not] at hg
  obtain ⟨⟨⟨⟨h1, h2⟩, h3⟩, h4⟩, h5⟩ := hg
  refine ⟨fun h0 => ?_, by omega, by omega, by omega, ?_⟩
  · cases ar with
    | nil => rfl
    | cons a ar => simp only [List.length_cons] at h1; omega
  · have key : ∀ l : List T, T.goodL l = true → ∀ a, a ∈ l → T.good a = true := by
      intro l
      induction l with
      | nil => intro _ a h; cases h
      | cons b l ih =>
        intro h a ha
        simp only [T.goodL, Bool.and_eq_true] at h
        cases ha with
        | head => exact h.1
        | tail _ ha => exact ih h.2 a ha
    exact key ar h5

mutual
theorem putP_put : ∀ (t : T) (N : List Nd), Fresh N → T.good t = true → Put N (putP N t).1 (putP N t).2 t
  | .mk h ar, N, hN, hg => by
    obtain ⟨g1, _, _, _, g5⟩ := T.good_parts hg
    simp only [putP]
    split
    · rename_i i hi
      split at hi
      · rename_i h0
        obtain ⟨hlt, he, _⟩ := List.findIdx?_eq_some_iff_getElem.1 hi
        have he' : N[i].head = h := by simpa using he
        have hgi : N[i]? = some N[i] := List.getElem?_eq_getElem hlt
        have har := g1 h0
        subst har
        refine ⟨Onto.refl N, hN, ?_, fun j h1 h2 => by replace h2 : j < N.length := h2; omega, hlt, by have := T.size_pos (.mk h []); simp only; omega⟩
        rw [← he']
        refine .mk ?_ hgi (by rw [hN.leaf i _ hgi (by omega)]; rfl) (fun k hk hk' => absurd hk' (by simp))
        rintro ⟨nd, e, h1⟩
        rw [hgi] at e; cases e; omega
      · cases hi
    · rename_i hi
      have hnew : ∀ j, (N ++ [(⟨h, [], -1⟩ : Nd)])[j]? = if j = N.length then some ⟨h, [], -1⟩ else N[j]? := by
        intro j
        by_cases c : j < N.length
        · rw [List.getElem?_append_left c, if_neg (by omega)]
        · rw [List.getElem?_append_right (by omega)]
          by_cases c' : j = N.length
          · subst c'; simp
          · rw [if_neg c', List.getElem?_eq_none (by simp; omega), List.getElem?_eq_none (by omega)]
      have hF : Fresh (N ++ [(⟨h, [], -1⟩ : Nd)]) := by
        refine ⟨fun a b x y hx hy h0 he => ?_, fun a x hx h0 => ?_, fun a x hx => ?_⟩
        · rw [hnew] at hx hy
          have no : ∀ (c : Nat) (z : Nd), N[c]? = some z → h < 0 → z.head ≠ h := by
            intro c z hz h0 he
            rw [if_pos h0] at hi
            have := (List.findIdx?_eq_none_iff.1 hi) z (List.mem_of_getElem? hz)
            simp [he] at this
          split at hx
          · rename_i c1
            split at hy
            · rename_i c2; rw [c1, c2]
            · cases hx; exact absurd he.symm (no b y hy h0)
          · split at hy
            · cases hy; exact absurd he (no a x hx (by replace he : x.head = h := he; omega))
            · exact hN.uniq a b x y hx hy h0 he
        · rw [hnew] at hx
          split at hx
          · cases hx; rfl
          · exact hN.leaf a x hx h0
        · rw [hnew] at hx
          split at hx
          · cases hx; rfl
          · exact hN.to a x hx
      have key := putL_put ar (N ++ [⟨h, [], -1⟩]) N N.length h [] [] hF (fun j nd e => by rw [hnew, if_neg (by have := (List.getElem?_eq_some_iff.1 e).1; omega)]; exact e) (by rw [hnew, if_pos rfl]) (fun hne => by
          by_cases c : h < 0
          · exact absurd (g1 c) hne
          · omega) g5 rfl (fun k hk => absurd hk (by simp)) (fun j h1 h2 h3 => by simp at h2; omega) (Nat.le_refl _)
      obtain ⟨ks, k1, k2, k3, k4, k5, k6, k7⟩ := key
      have hden : DenX (putL (N ++ [⟨h, [], -1⟩]) N.length ar) (Old N) N.length (.mk h ar) := by
        refine DenX.mk (nd := ⟨h, ks, -1⟩) ?_ k3 (by simpa using k4) (fun k hk hk' => by simpa using k5 k hk (by simpa using hk'))
        rintro ⟨nd, e, _⟩
        have := (List.getElem?_eq_some_iff.1 e).1
        omega
      refine ⟨k1, k2, hden, fun j h1 h2 => ?_, (List.getElem?_eq_some_iff.1 k3).1, ?_⟩
      · by_cases c : j = N.length
        · subst c; exact ⟨_, hden, hg⟩
        · exact k6 j h1 h2 c
      · simp only [List.length_append, List.length_cons, List.length_nil] at k7
        simp only [T.size]; omega
theorem putL_put : ∀ (ar : List T) (M N : List Nd) (i : Nat) (h : Int) (ks : List Nat) (done : List T), Fresh M → Onto N M → M[i]? = some ⟨h, ks, -1⟩ → (ar ≠ [] → 0 ≤ h) → (∀ a, a ∈ ar → T.good a = true) → ks.length = done.length →
    (∀ k (hk : k < ks.length) (hk' : k < done.length), DenX M (fun j => Old N j ∨ (j = i ∧ 0 ≤ h)) ks[k] done[k]) → (∀ j, N.length ≤ j → j < M.length → j ≠ i → ∃ u, DenX M (fun j => Old N j ∨ (j = i ∧ 0 ≤ h)) j u ∧ T.good u = true) → N.length ≤ i →
    ∃ ks' : List Nat, Onto N (putL M i ar) ∧ Fresh (putL M i ar) ∧ (putL M i ar)[i]? = some ⟨h, ks', -1⟩ ∧ ks'.length = (done ++ ar).length ∧ (∀ k (hk : k < ks'.length) (hk' : k < (done ++ ar).length), DenX (putL M i ar) (Old N) ks'[k] (done ++ ar)[k]) ∧
      (∀ j, N.length ≤ j → j < (putL M i ar).length → j ≠ i → ∃ u, DenX (putL M i ar) (Old N) j u ∧ T.good u = true) ∧ (putL M i ar).length ≤ M.length + T.sizeL ar
  | [], M, N, i, h, ks, done, hF, ho, hi, hh, hg, hl, hd, ha, hni => by
    simp only [putL, List.append_nil]
    exact ⟨ks, ho, hF, hi, hl, fun k hk hk' => (hd k hk hk').move (fun j h => .inl h) (fun _ _ _ h => h), fun j h1 h2 h3 => by
      obtain ⟨u, hu, gu⟩ := ha j h1 h2 h3
      exact ⟨u, hu.move (fun j h => .inl h) (fun _ _ _ h => h), gu⟩, by simp [T.sizeL]⟩
  | a :: ar, M, N, i, h, ks, done, hF, ho, hi, hh, hg, hl, hd, ha, hni => by
    have h0 : 0 ≤ h := hh (by simp)
    have hp := putP_put a M hF (hg a (by simp))
    have hi' := hp.onto i _ hi
    have hold : ∀ j, Old N j ∨ (j = i ∧ 0 ≤ h) → Old M j := by
      rintro j (⟨nd, e, h1⟩ | ⟨rfl, h1⟩)
      · exact ⟨nd, ho j nd e, h1⟩
      · exact ⟨_, hi, h1⟩
    have hget : ∀ j nd, ¬ (Old N j ∨ (j = i ∧ 0 ≤ h)) → (putP M a).1[j]? = some nd → (addArg (putP M a).1 i (putP M a).2)[j]? = some nd := by
      intro j nd hj e
      rw [addArg_get, e]
      have : j ≠ i := fun e => hj (.inr ⟨e, h0⟩)
      simp [this]
    have hi2 : (addArg (putP M a).1 i (putP M a).2)[i]? = some ⟨h, ks ++ [(putP M a).2], -1⟩ := by rw [addArg_get, hi']; simp
    have hlen : (addArg (putP M a).1 i (putP M a).2).length = (putP M a).1.length := by simp [addArg]
    have key := putL_put ar (addArg (putP M a).1 i (putP M a).2) N i h (ks ++ [(putP M a).2]) (done ++ [a]) (hp.fresh.addArg (fun x hx => by rw [hi'] at hx; cases hx; exact h0))
      (fun j nd e => by
        have hne : j ≠ i := by have := (List.getElem?_eq_some_iff.1 e).1; omega
        rw [addArg_get, hp.onto j nd (ho j nd e)]; simp [hne])
      hi2 (fun _ => h0) (fun b hb => hg b (by simp [hb])) (by simp [hl])
      (fun k hk hk' => by
        by_cases c : k < ks.length
        · rw [List.getElem_append_left c, List.getElem_append_left (by omega)]
          exact (hd k c (by omega)).move (fun _ h => h) (fun j nd hj e => hget j nd hj (hp.onto j nd e))
        · have ek : k = ks.length := by simp at hk; omega
          subst ek
          rw [List.getElem_append_right (Nat.le_refl _), List.getElem_append_right (by omega)]
          simp only [Nat.sub_self, List.getElem_cons_zero, hl]
          exact hp.den.move hold (fun j nd hj e => hget j nd (fun h => hj (hold j h)) e))
      (fun j h1 h2 h3 => by
        rw [hlen] at h2
        by_cases c : j < M.length
        · obtain ⟨u, hu, gu⟩ := ha j h1 c h3
          exact ⟨u, hu.move (fun _ h => h) (fun j nd hj e => hget j nd hj (hp.onto j nd e)), gu⟩
        · obtain ⟨u, hu, gu⟩ := hp.all j (by omega) h2
          exact ⟨u, hu.move hold (fun j nd hj e => hget j nd (fun h => hj (hold j h)) e), gu⟩)
      hni
    obtain ⟨ks', k1, k2, k3, k4, k5, k6, k7⟩ := key
    have ea : done ++ [a] ++ ar = done ++ a :: ar := by simp
    simp only [putL]
    rw [hlen] at k7
    have hs := hp.small
    refine ⟨ks', k1, k2, k3, by rw [ea] at k4; exact k4, fun k hk hk' => ?_, k6, by simp only [T.sizeL]; omega⟩
    have := k5 k hk (by rw [ea]; exact hk')
    simpa [ea] using this
end
end Go.Proofs.Ytokhnlhffnidmaa.Elen
