/- How long the solver's stack may grow: its pairs stand in groups, each a node's arguments; the nodes lie one behind the other, so none comes twice. -/
import Derived.Test.YtokhnlhffnidmaaPlainB
namespace Go.Proofs.Ytokhnlhffnidmaa.Elen

/-- all that may be met -/
structure Cl (U : List T) (s : Sub) : Prop where
  args : ∀ t, t ∈ U → ∀ a, a ∈ t.args → a ∈ U
  low : ∀ t, t ∈ U → t.head < 0 → -256 ≤ t.head
  ar : ∀ t, t ∈ U → t.args.length ≤ 8
  leaf : ∀ t, t ∈ U → t.head < 0 → t.args = []
  vals : ∀ k u, s k = some u → u ∈ U ∧ 0 ≤ k ∧ k < 256
theorem Cl.walk {U : List T} {s : Sub} (h : Cl U s) {a x : T} (hw : Walk s a x) : a ∈ U → x ∈ U := by
  induction hw with
  | node => exact id
  | free => exact id
  | step _ h1 _ ih => intro _; exact ih (h.vals _ _ h1).1
theorem Cl.set {U : List T} {s : Sub} (h : Cl U s) {x y : T} (hx : x ∈ U) (hy : y ∈ U) (h0 : x.head < 0) : Cl U (s.set (-1 - x.head) y) := by
  refine ⟨h.args, h.low, h.ar, h.leaf, fun k u e => ?_⟩
  simp only [Sub.set] at e
  split at e
  · cases e
    rename_i c
    have := h.low x hx h0
    exact ⟨hy, by omega, by omega⟩
  · exact h.vals k u e
theorem Pair2.mem {U : List T} {s : Sub} (hU : Cl U s) {a b x y : T} (h : Pair2 s a b x y) (ha : a ∈ U) (hb : b ∈ U) : x ∈ U ∧ y ∈ U := by
  obtain ⟨x0, y0, h1, h2, h3⟩ := h
  have k1 := hU.walk h1 ha
  have k2 := hU.walk h2 hb
  simp only [sw] at h3
  split at h3 <;> simp at h3 <;> obtain ⟨rfl, rfl⟩ := h3
  · exact ⟨k2, k1⟩
  · exact ⟨k1, k2⟩
theorem Pair2.free {s : Sub} {a b x y : T} (h : Pair2 s a b x y) (h0 : x.head < 0) : s (-1 - x.head) = none := by
  obtain ⟨x0, y0, h1, h2, h3⟩ := h
  simp only [sw] at h3
  split at h3 <;> simp at h3 <;> obtain ⟨rfl, rfl⟩ := h3
  · exact h2.free_of h0
  · exact h1.free_of h0

/-- x stands behind an argument of y -/
def Behind (s : Sub) (x y : T) : Prop := ∃ z, z ∈ y.args ∧ Walk s z x ∧ 0 ≤ x.head ∧ 0 ≤ y.head
theorem Walk.set {s : Sub} {v : Int} {t a x : T} (hf : s v = none) (h : Walk s a x) (h0 : 0 ≤ x.head) : Walk (s.set v t) a x := by
  induction h with
  | node h1 => exact .node h1
  | free h1 => simp only [T.head] at h0; omega
  | step h1 h2 _ ih =>
    refine .step h1 ?_ (ih h0)
    simp only [Sub.set]
    rw [if_neg (fun e => by rw [e, hf] at h2; cases h2)]
    exact h2
theorem Behind.set {s : Sub} {v : Int} {t x y : T} (hf : s v = none) (h : Behind s x y) : Behind (s.set v t) x y := by
  obtain ⟨z, h1, h2, h3, h4⟩ := h; exact ⟨z, h1, h2.set hf h3, h3, h4⟩
theorem Behind.size {s : Sub} {x y x' y' : T} (h : Behind s x y) (hx : Full s x x') (hy : Full s y y') : x'.size < y'.size := by
  obtain ⟨z, h1, h2, h3, h4⟩ := h
  have hz := h2.full hx
  cases hy with
  | free h => simp only [T.head] at h4; omega
  | bound h => simp only [T.head] at h4; omega
  | @node hd ar ar' h0 hl hk =>
    obtain ⟨i, hi, rfl⟩ := List.mem_iff_getElem.1 h1
    have := hk i hi (by simp only [T.args] at hi; omega)
    have e := hz.det this
    subst e
    exact T.size_lt (List.getElem_mem _)
/-- a chain of nodes, each behind the next -/
def Chain (s : Sub) : List T → Prop
  | [] => True
  | [_] => True
  | x :: y :: c => Behind s x y ∧ Chain s (y :: c)
theorem Chain.tail {s : Sub} {x : T} {c : List T} (h : Chain s (x :: c)) : Chain s c := by
  cases c with
  | nil => trivial
  | cons y c => exact h.2
theorem Chain.set {s : Sub} {v : Int} {t : T} (hf : s v = none) : ∀ {c : List T}, Chain s c → Chain (s.set v t) c
  | [], _ => trivial
  | [_], _ => trivial
  | _ :: _ :: _, h => ⟨h.1.set hf, h.2.set hf⟩
theorem Chain.size {s : Sub} (hs : Tot s) : ∀ {c : List T} {x : T}, Chain s (x :: c) → ∀ y, y ∈ c → ∀ x' y', Full s x x' → Full s y y' → x'.size < y'.size
  | [], _, _, y, hy => by cases hy
  | z :: c, x, h, y, hy => by
    intro x' y' hx hyf
    obtain ⟨z', hz⟩ := hs z
    have h1 := h.1.size hx hz
    rcases List.mem_cons.1 hy with rfl | hy
    · rw [hyf.det hz]; exact h1
    · exact Nat.lt_trans h1 (Chain.size hs h.2 y hy z' y' hz hyf)
theorem Chain.nodup {s : Sub} (hs : Tot s) : ∀ {c : List T}, Chain s c → c.Nodup
  | [], _ => List.nodup_nil
  | x :: c, h => by
    refine List.nodup_cons.2 ⟨fun hm => ?_, Chain.nodup hs h.tail⟩
    obtain ⟨x', hx⟩ := hs x
    have := Chain.size hs h x hm x' x' hx hx
    omega
open Classical in
theorem nodup_sub {α : Type} : ∀ {l U : List α}, l.Nodup → (∀ x, x ∈ l → x ∈ U) → l.length ≤ U.length
  | [], _, _, _ => Nat.zero_le _
  | a :: l, U, hn, hs => by
    have hn' := List.nodup_cons.1 hn
    have ha := hs a (.head _)
    have := nodup_sub (U := U.erase a) hn'.2 (fun x hx => by
      have hne : x ≠ a := fun e => hn'.1 (e ▸ hx)
      exact (List.mem_erase_of_ne hne).2 (hs x (.tail _ hx)))
    have hl := List.length_erase_of_mem ha
    have hp : 0 < U.length := List.length_pos_of_mem ha
    rw [List.length_cons]; omega

/-- the pairs in groups; C: the nodes whose arguments they are, the newest first -/
inductive Grp (U : List T) (n0 : Nat) : List T → List (T × T) → Prop
  | base {l : List (T × T)} : l.length ≤ n0 → Grp U n0 [] l
  | group {x : T} {C : List T} {g l : List (T × T)} : x ∈ U → g.length ≤ 8 → (∀ p, p ∈ g → p.1 ∈ x.args) → 0 ≤ x.head → Grp U n0 C l → Grp U n0 (x :: C) (g ++ l)
theorem Grp.length {U : List T} {n0 : Nat} {C : List T} {l : List (T × T)} (h : Grp U n0 C l) : l.length ≤ n0 + 8 * C.length := by
  induction h with
  | base h => simpa using h
  | group _ h1 _ _ _ ih => rw [List.length_append, List.length_cons]; omega
theorem Grp.mem {U : List T} {n0 : Nat} {C : List T} {l : List (T × T)} (h : Grp U n0 C l) : ∀ x, x ∈ C → x ∈ U := by
  induction h with
  | base => intro x h; cases h
  | group h0 _ _ _ _ ih =>
    intro x h
    rcases List.mem_cons.1 h with rfl | h
    · exact h0
    · exact ih x h
/-- what is left where the first pair is taken, and whose argument that was -/
theorem Grp.pop {U : List T} {n0 : Nat} {s : Sub} {C : List T} {l0 : List (T × T)} (h : Grp U n0 C l0) : ∀ {p : T × T} {l : List (T × T)}, l0 = p :: l → Chain s C →
    ∃ C', Grp U n0 C' l ∧ Chain s C' ∧ ∀ x, x ∈ U → 0 ≤ x.head → Walk s p.1 x → Chain s (x :: C') := by
  induction h with
  | @base l0 h =>
    intro p l e hc
    subst e
    exact ⟨[], .base (by simp at h; omega), trivial, fun _ _ _ _ => trivial⟩
  | @group x C g l' h0 h1 h2 h3 hl ih =>
    intro p l e hc
    cases g with
    | nil => exact ih e hc.tail
    | cons q g =>
      rw [List.cons_append] at e
      cases e
      refine ⟨x :: C, .group h0 (by simp at h1; omega) (fun p hp => h2 p (.tail _ hp)) h3 hl, hc, fun y hy hy0 hw => ⟨⟨p.1, h2 p (.head _), hw, hy0, h3⟩, hc⟩⟩

/-- a run's steps counted, and what it asks of each step -/
inductive RunK : Nat → Sub → List (T × T) → Option Sub → Prop
  | nil {s} : RunK 0 s [] (some s)
  | same {k s a b x y l r} : Pair2 s a b x y → x.head < 0 → x.head = y.head → RunK k s l r → RunK (k + 1) s ((a, b) :: l) r
  | occurs {s a b x y y' l} : Pair2 s a b x y → x.head < 0 → x.head ≠ y.head → Full s y y' → T.has (-1 - x.head) y' = true → RunK 0 s ((a, b) :: l) none
  | bind {k s a b x y y' l r} : Pair2 s a b x y → x.head < 0 → x.head ≠ y.head → Full s y y' → T.has (-1 - x.head) y' = false → RunK k (s.set (-1 - x.head) y) l r → RunK (k + 1) s ((a, b) :: l) r
  | clash {s a b x y l} : Pair2 s a b x y → 0 ≤ x.head → (x.head ≠ y.head ∨ x.args.length ≠ y.args.length) → RunK 0 s ((a, b) :: l) none
  | node {k s a b x y l r} : Pair2 s a b x y → 0 ≤ x.head → x.head = y.head → x.args.length = y.args.length → RunK k s (x.args.zip y.args ++ l) r → RunK (k + 1) s ((a, b) :: l) r
theorem Run.count {s : Sub} {l : List (T × T)} {r : Option Sub} (h : Run s l r) : ∃ k, RunK k s l r := by
  induction h with
  | nil => exact ⟨_, .nil⟩
  | same h1 h2 h3 _ ih => obtain ⟨k, ih⟩ := ih; exact ⟨_, .same h1 h2 h3 ih⟩
  | occurs h1 h2 h3 h4 h5 => exact ⟨_, .occurs h1 h2 h3 h4 h5⟩
  | bind h1 h2 h3 h4 h5 _ ih => obtain ⟨k, ih⟩ := ih; exact ⟨_, .bind h1 h2 h3 h4 h5 ih⟩
  | clash h1 h2 h3 => exact ⟨_, .clash h1 h2 h3⟩
  | node h1 h2 h3 h4 _ ih => obtain ⟨k, ih⟩ := ih; exact ⟨_, .node h1 h2 h3 h4 ih⟩

/-- what holds between two steps -/
structure RunI (U : List T) (n0 : Nat) (s : Sub) (l : List (T × T)) : Prop where
  cl : Cl U s
  tot : Tot s
  mem : ∀ p, p ∈ l → p.1 ∈ U ∧ p.2 ∈ U
  grp : ∃ C, Grp U n0 C l ∧ Chain s C
theorem RunI.length {U : List T} {n0 : Nat} {s : Sub} {l : List (T × T)} (h : RunI U n0 s l) : l.length ≤ n0 + 8 * U.length := by
  obtain ⟨C, h1, h2⟩ := h.grp
  have := h1.length
  have := nodup_sub (h2.nodup h.tot) h1.mem
  omega
theorem RunI.tail {U : List T} {n0 : Nat} {s : Sub} {p : T × T} {l : List (T × T)} (h : RunI U n0 s (p :: l)) : RunI U n0 s l := by
  obtain ⟨C, h1, h2⟩ := h.grp
  obtain ⟨C', k1, k2, _⟩ := h1.pop rfl h2
  exact ⟨h.cl, h.tot, fun q hq => h.mem q (.tail _ hq), C', k1, k2⟩
theorem RunI.bind {U : List T} {n0 : Nat} {s : Sub} {a b x y y' : T} {l : List (T × T)} (h : RunI U n0 s ((a, b) :: l)) (hp : Pair2 s a b x y) (h0 : x.head < 0) (hf : Full s y y') (hv : T.has (-1 - x.head) y' = false) : RunI U n0 (s.set (-1 - x.head) y) l := by
  obtain ⟨C, h1, h2⟩ := h.tail.grp
  have hm := h.mem _ (.head _)
  have hxy := hp.mem h.cl hm.1 hm.2
  have hfree := hp.free h0
  exact ⟨h.cl.set hxy.1 hxy.2 h0, h.tot.set hfree hf hv, h.tail.mem, C, h1, h2.set hfree⟩
theorem RunI.node {U : List T} {n0 : Nat} {s : Sub} {a b x y : T} {l : List (T × T)} (h : RunI U n0 s ((a, b) :: l)) (hp : Pair2 s a b x y) (h0 : 0 ≤ x.head) : RunI U n0 s (x.args.zip y.args ++ l) := by
  obtain ⟨C, h1, h2⟩ := h.grp
  obtain ⟨C', k1, k2, k3⟩ := h1.pop rfl h2
  have hm := h.mem _ (.head _)
  have hxy := hp.mem h.cl hm.1 hm.2
  refine ⟨h.cl, h.tot, fun q hq => ?_, x :: C', .group hxy.1 ?_ (fun q hq => ?_) h0 k1, k3 x hxy.1 h0 (hp.node_of h0).1⟩
  · rcases List.mem_append.1 hq with hq | hq
    · have := List.of_mem_zip (show (q.1, q.2) ∈ x.args.zip y.args from hq)
      exact ⟨h.cl.args x hxy.1 _ this.1, h.cl.args y hxy.2 _ this.2⟩
    · exact h.mem q (.tail _ hq)
  · have := h.cl.ar x hxy.1
    simp only [List.length_zip]; omega
  · exact (List.of_mem_zip (show (q.1, q.2) ∈ x.args.zip y.args from hq)).1

/-! ### all parts of some terms -/
mutual
def T.subs : T → List T
  | .mk h ar => .mk h ar :: T.subsL ar
def T.subsL : List T → List T
  | [] => []
  | a :: ar => T.subs a ++ T.subsL ar
end
mutual
theorem T.subs_length : ∀ t : T, t.subs.length = t.size
  | .mk h ar => by simp only [T.subs, T.size, List.length_cons]; rw [T.subsL_length]
theorem T.subsL_length : ∀ l : List T, (T.subsL l).length = T.sizeL l
  | [] => rfl
  | a :: ar => by simp only [T.subsL, T.sizeL, List.length_append]; rw [T.subs_length, T.subsL_length]
end
theorem T.self_subs (t : T) : t ∈ t.subs := by cases t; exact .head _
theorem T.mem_subsL : ∀ {l : List T} {a x : T}, a ∈ l → x ∈ a.subs → x ∈ T.subsL l
  | b :: l, a, x, h, hx => by
    simp only [T.subsL, List.mem_append]
    rcases List.mem_cons.1 h with rfl | h
    · exact .inl hx
    · exact .inr (T.mem_subsL h hx)
mutual
theorem T.subs_args : ∀ (t x a : T), x ∈ t.subs → a ∈ x.args → a ∈ t.subs
  | .mk h ar, x, a, hx, ha => by
    simp only [T.subs, List.mem_cons] at hx ⊢
    rcases hx with rfl | hx
    · exact .inr (T.mem_subsL ha (T.self_subs a))
    · exact .inr (T.subsL_args ar x a hx ha)
theorem T.subsL_args : ∀ (l : List T) (x a : T), x ∈ T.subsL l → a ∈ x.args → a ∈ T.subsL l
  | [], x, a, hx, _ => by cases hx
  | b :: l, x, a, hx, ha => by
    simp only [T.subsL, List.mem_append] at hx ⊢
    rcases hx with hx | hx
    · exact .inl (T.subs_args b x a hx ha)
    · exact .inr (T.subsL_args l x a hx ha)
end
mutual
theorem T.subs_good : ∀ (t x : T), t.good = true → x ∈ t.subs → okHere x.head x.args.length = true
  | .mk h ar, x, hg, hx => by
    simp only [T.good, Bool.and_eq_true] at hg
    simp only [T.subs, List.mem_cons] at hx
    rcases hx with rfl | hx
    · exact hg.1
    · exact T.subsL_good ar x hg.2 hx
theorem T.subsL_good : ∀ (l : List T) (x : T), T.goodL l = true → x ∈ T.subsL l → okHere x.head x.args.length = true
  | [], x, _, hx => by cases hx
  | a :: l, x, hg, hx => by
    simp only [T.goodL, Bool.and_eq_true] at hg
    simp only [T.subsL, List.mem_append] at hx
    rcases hx with hx | hx
    · exact T.subs_good a x hg.1 hx
    · exact T.subsL_good l x hg.2 hx
end
theorem Cl.of_good {l : List T} (hg : T.goodL l = true) : Cl (T.subsL l) (fun _ => none) := by
  refine ⟨fun t ht a ha => T.subsL_args l t a ht ha, fun t ht h0 => ?_, fun t ht => ?_, fun t ht h0 => ?_, fun k u e => by cases e⟩
  · have := T.subsL_good l t hg ht
    unfold okHere at this
    simp only [Bool.and_eq_true, Bool.not_eq_true', decide_eq_false_iff_not] at this
    omega
  · have := T.subsL_good l t hg ht
    unfold okHere at this
    simp only [Bool.and_eq_true, Bool.not_eq_true', decide_eq_false_iff_not] at this
    omega
  · have := T.subsL_good l t hg ht
    unfold okHere at this
    simp only [Bool.and_eq_true, Bool.not_eq_true', decide_eq_false_iff_not, Bool.and_eq_false_iff] at this
    exact List.length_eq_zero_iff.1 (by omega)
/-- the arguments of what is not bound, written out -/
theorem Cl.under {U : List T} {s : Sub} (hU : Cl U s) {u t' : T} (hu : u ∈ U) (hf : Full s u t') (h0 : u.head < 0 → s (-1 - u.head) = none) :
    ∃ ls : List T, u.args.length = ls.length ∧ (∀ i (hi : i < u.args.length) (hi' : i < ls.length), Full s u.args[i] ls[i] ∧ ls[i].size < t'.size) ∧ t' = .mk u.head ls := by
  cases hf with
  | @free h ar q1 q2 => exact ⟨[], by rw [hU.leaf _ hu q1]; first | done | rfl, fun i hi hi' => absurd hi' (by simp), rfl⟩
  | bound q1 q2 => have := h0 q1; simp only [T.head] at this; rw [this] at q2; cases q2
  | @node h ar ar' q1 q2 q3 => exact ⟨ar', q2, fun i hi hi' => ⟨q3 i hi hi', T.size_lt (List.getElem_mem _)⟩, rfl⟩
theorem RunI.start {la lb : List T} (hl : la.length = lb.length) (hg : T.goodL (la ++ lb) = true) : RunI (T.subsL (la ++ lb)) la.length (fun _ => none) (la.zip lb) := by
  refine ⟨Cl.of_good hg, Tot.empty, fun p hp => ?_, [], .base (by simp only [List.length_zip]; omega), trivial⟩
  have := List.of_mem_zip (show (p.1, p.2) ∈ la.zip lb from hp)
  exact ⟨T.mem_subsL (List.mem_append_left _ this.1) (T.self_subs _), T.mem_subsL (List.mem_append_right _ this.2) (T.self_subs _)⟩
end Go.Proofs.Ytokhnlhffnidmaa.Elen
