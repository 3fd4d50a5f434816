/- Both ways of unifying answer alike, without the program. -/
import Derived.Test.YtokhnlhffnidmaaPlainD
import Derived.Test.YtokhnlhffnidmaaPlainE
import Derived.Test.YtokhnlhffnidmaaPlainH
namespace Go.Proofs.Ytokhnlhffnidmaa.Elen

def putZ : List Nd → List (T × T) → List Nd × List (Nat × Nat)
  | N, [] => (N, [])
  | N, p :: L => ((putZ (putP (putP N p.1).1 p.2).1 L).1, ((putP N p.1).2, (putP (putP N p.1).1 p.2).2) :: (putZ (putP (putP N p.1).1 p.2).1 L).2)

theorem Den.onto {n n' : List Nd} (h : Onto n n') {i : Nat} {t : T} (hd : Den n i t) : Den n' i t := by
  induction hd with
  | mk h0 h1 _ ih => exact .mk (h _ _ h0) h1 ih
theorem PairsDen.onto {n n' : List Nd} (h : Onto n n') {l : List (Nat × Nat)} {L : List (T × T)} (hp : PairsDen n l L) : PairsDen n' l L :=
  ⟨hp.1, fun k hk hk' => ⟨(hp.2 k hk hk').1.onto h, (hp.2 k hk hk').2.onto h⟩⟩
def AllDen (n : List Nd) : Prop := ∀ j, j < n.length → ∃ u, Den n j u ∧ T.good u = true
theorem Put.allDen {N N' : List Nd} {i : Nat} {t : T} (h : Put N N' i t) (ha : AllDen N) : AllDen N' := fun j hj => by
  by_cases c : j < N.length
  · obtain ⟨u, hu, hg⟩ := ha j c
    exact ⟨u, hu.onto h.onto, hg⟩
  · obtain ⟨u, hu, hg⟩ := h.all j (by omega) hj
    exact ⟨u, hu.den, hg⟩
def sizes : List (T × T) → Nat
  | [] => 0
  | p :: L => p.1.size + p.2.size + sizes L
theorem sizes_zip : ∀ (la lb : List T), sizes (la.zip lb) ≤ T.sizeL la + T.sizeL lb
  | [], lb => by simp [sizes]
  | a :: la, [] => by simp [sizes]
  | a :: la, b :: lb => by simp only [List.zip_cons_cons, sizes, T.sizeL]; have := sizes_zip la lb; omega

theorem putZ_put : ∀ (L : List (T × T)) (N : List Nd), Fresh N → AllDen N → (∀ p, p ∈ L → T.good p.1 = true ∧ T.good p.2 = true) →
    Onto N (putZ N L).1 ∧ Fresh (putZ N L).1 ∧ AllDen (putZ N L).1 ∧ PairsDen (putZ N L).1 (putZ N L).2 L ∧ (putZ N L).1.length ≤ N.length + sizes L
  | [], N, hF, hA, _ => ⟨Onto.refl _, hF, hA, ⟨rfl, fun k hk => absurd hk (by simp [putZ])⟩, by simp [putZ, sizes]⟩
  | p :: L, N, hF, hA, hg => by
    obtain ⟨g1, g2⟩ := hg p (.head _)
    have h1 := putP_put p.1 N hF g1
    have h2 := putP_put p.2 (putP N p.1).1 h1.fresh g2
    obtain ⟨k1, k2, k3, k4, k5⟩ := putZ_put L (putP (putP N p.1).1 p.2).1 h2.fresh (h2.allDen (h1.allDen hA)) (fun q hq => hg q (.tail _ hq))
    simp only [putZ, sizes]
    refine ⟨h1.onto.trans (h2.onto.trans k1), k2, k3, ⟨by simp only [List.length_cons]; have := k4.1; omega, fun k hk hk' => ?_⟩, ?_⟩
    · cases k with
      | zero => exact ⟨(h1.den.den.onto h2.onto).onto k1, h2.den.den.onto k1⟩
      | succ k => exact k4.2 k (by simpa using hk) (by simpa using hk')
    · have := h1.small
      have := h2.small
      omega

mutual
theorem Low.of_good : ∀ t : T, T.good t = true → Low t
  | .mk h ar, hg => by
    obtain ⟨h1, h2, _, _, h5⟩ := T.good_parts hg
    intro v hv
    simp only [T.has, Bool.or_eq_true, Bool.and_eq_true, decide_eq_true_eq] at hv
    rcases hv with hv | hv
    · omega
    · exact Low.of_goodL ar h5 v hv
theorem Low.of_goodL : ∀ l : List T, (∀ a, a ∈ l → T.good a = true) → ∀ v, T.hasL v l = true → v < 256
  | [], _, v, hv => by simp [T.hasL] at hv
  | a :: l, hg, v, hv => by
    simp only [T.hasL, Bool.or_eq_true] at hv
    rcases hv with hv | hv
    · exact Low.of_good a (hg a (.head _)) v hv
    · exact Low.of_goodL l (fun b hb => hg b (.tail _ hb)) v hv
end

theorem net_of {n : List Nd} (hF : Fresh n) (hA : AllDen n) : Net n := by
  refine ⟨hF.uniq, hF.leaf, fun i x hx _ => ?_, fun i x hx => ?_, fun i hi => ?_⟩
  · rw [hF.to i x hx]; decide
  · have := (List.getElem?_eq_some_iff.1 hx).1
    rw [hF.to i x hx]; omega
  · obtain ⟨u, hu, hg⟩ := hA i hi
    exact ⟨u, hu, Low.of_good u hg⟩
theorem rep_of {n : List Nd} (hF : Fresh n) : Rep n (fun _ => none) :=
  ⟨fun _ _ _ _ _ => rfl, fun i x hx _ h => by rw [hF.to i x hx] at h; omega, fun v u h => by cases h⟩
theorem args_of {n : List Nd} (hA : AllDen n) (i : Nat) (nd : Nd) (h : n[i]? = some nd) : nd.args.length ≤ 8 := by
  obtain ⟨u, hu, hg⟩ := hA i (List.getElem?_eq_some_iff.1 h).1
  cases hu with
  | mk e hl _ =>
    rw [h] at e; cases e
    have := (T.good_parts hg).2.2.2.1
    omega

/-- the two runs, side by side -/
theorem both (L : List (T × T)) (hg : ∀ p, p ∈ L → T.good p.1 = true ∧ T.good p.2 = true) :
    ∃ q : Option (List Nd × Sub), RRun (putZ [] L).1 (fun _ => none) (fun _ _ => false) (putZ [] L).2 q ∧ Run (fun _ => none) L (q.map (·.2)) ∧ (∀ n' s', q = some (n', s') → Like (putZ [] L).1 n' ∧ Net n' ∧ Rep n' s' ∧ Fine s') := by
  have hF0 : Fresh [] := ⟨fun i j x y h => by simp at h, fun i x h => by simp at h, fun i x h => by simp at h⟩
  have hA0 : AllDen [] := fun j hj => by simp at hj
  obtain ⟨_, k2, k3, k4, _⟩ := putZ_put L [] hF0 hA0 hg
  obtain ⟨fs, hfs⟩ := Tot.empty.fulls (L.map Prod.fst)
  exact RRun.exists_ _ _ _ _ _ _ L fs (net_of k2 k3) (rep_of k2) ⟨Tot.empty, fun n u h => by cases h⟩ (fun a b h => by cases h) (fun p hp => ⟨Low.of_good _ (hg p hp).1, Low.of_good _ (hg p hp).2⟩) k4 rfl hfs rfl

/-- the variables from a number on that are bound -/
def varsFrom (s : Sub) (d : Nat) : List Nat := (List.range' d (256 - d)).filter fun v => (s (v : Int)).isSome
theorem varsFrom_zero (s : Sub) : varsFrom s 0 = vars s := by unfold varsFrom vars; rw [List.range_eq_range']
theorem varsFrom_end (s : Sub) : varsFrom s 256 = [] := rfl
theorem varsFrom_step (s : Sub) {d : Nat} (hd : d < 256) : varsFrom s d = (if (s (d : Int)).isSome then [d] else []) ++ varsFrom s (d + 1) := by
  unfold varsFrom
  rw [show 256 - d = (256 - (d + 1)) + 1 from by omega, List.range'_succ, List.filter_cons]
  split <;> simp
/-- the part of a variable that is bound lies from i on -/
def Pend (n : List Nd) (v i : Nat) : Prop := ∃ (j : Nat) (x : Nd), i ≤ j ∧ n[j]? = some x ∧ x.head = -1 - (v : Int) ∧ 0 ≤ x.to
theorem Pend.zero {n : List Nd} {s : Sub} (hr : Rep n s) (v : Nat) : Pend n v 0 ↔ (s (v : Int)).isSome = true := by
  constructor
  · rintro ⟨j, x, _, h1, h2, h3⟩
    obtain ⟨u, hu, _⟩ := hr.bound j x h1 (by omega) h3
    rw [show -1 - x.head = (v : Int) from by omega] at hu
    rw [hu]; rfl
  · intro h
    obtain ⟨u, hu⟩ := Option.isSome_iff_exists.1 h
    obtain ⟨i, x, h1, h2, h3, h4⟩ := hr.back v u hu
    exact ⟨i, x, Nat.zero_le _, h1, h2, h4⟩
theorem Pend.end_ {n : List Nd} {v : Nat} : ¬ Pend n v n.length := by
  rintro ⟨j, x, h, h1, _⟩
  have := (List.getElem?_eq_some_iff.1 h1).1
  omega
theorem Pend.here {n : List Nd} {v i : Nat} {x : Nd} (hx : n[i]? = some x) (h1 : x.head = -1 - (v : Int)) (h2 : 0 ≤ x.to) : Pend n v i := ⟨i, x, Nat.le_refl _, hx, h1, h2⟩
theorem Pend.used {n : List Nd} (hn : Net n) {v i : Nat} {x : Nd} (hx : n[i]? = some x) (h1 : x.head = -1 - (v : Int)) : ¬ Pend n v (i + 1) := by
  rintro ⟨j, y, h, h2, h3, _⟩
  have := hn.uniq i j x y hx h2 (by omega) (by omega)
  omega
theorem Pend.next {n : List Nd} {v i : Nat} {x : Nd} (hx : n[i]? = some x) (h : x.head ≠ -1 - (v : Int) ∨ x.to < 0) : Pend n v i ↔ Pend n v (i + 1) := by
  constructor
  · rintro ⟨j, y, h1, h2, h3, h4⟩
    by_cases c : j = i
    · subst c
      rw [hx] at h2; cases h2
      rcases h with h | h
      · exact absurd h3 h
      · omega
    · exact ⟨j, y, by omega, h2, h3, h4⟩
  · rintro ⟨j, y, h1, h2⟩
    exact ⟨j, y, by omega, h2⟩
end Go.Proofs.Ytokhnlhffnidmaa.Elen
