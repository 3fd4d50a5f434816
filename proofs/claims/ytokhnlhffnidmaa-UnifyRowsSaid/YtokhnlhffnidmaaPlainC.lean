/- The reference's net: parts of terms by numbers; its run, without the program. -/
import Derived.Test.YtokhnlhffnidmaaPlainA
namespace Go.Proofs.Ytokhnlhffnidmaa.Elen

/-- a part, as the reference keeps it -/
structure Nd where
  head : Int
  args : List Nat
  to : Int

inductive Den (n : List Nd) : Nat → T → Prop
  | mk {i : Nat} {nd : Nd} {ts : List T} : n[i]? = some nd → nd.args.length = ts.length → (∀ k (hk : k < nd.args.length) (hk' : k < ts.length), Den n nd.args[k] ts[k]) → Den n i (.mk nd.head ts)

theorem Den.det {n : List Nd} {i : Nat} {a : T} (h : Den n i a) : ∀ {b}, Den n i b → a = b := by
  induction h with
  | mk h0 hl _ ih =>
    intro b hb
    cases hb with
    | mk h1 hl2 h2 =>
      rw [h0] at h1; cases h1
      congr 1
      apply List.ext_getElem (by omega)
      intro k k1 k2
      exact ih k (by omega) k1 (h2 k (by omega) k2)

/-- two nets alike but for what is bound -/
def Like (n n' : List Nd) : Prop := n.length = n'.length ∧ ∀ (i : Nat) (nd : Nd), n[i]? = some nd → ∃ nd' : Nd, n'[i]? = some nd' ∧ nd'.head = nd.head ∧ nd'.args = nd.args
theorem Like.refl (n : List Nd) : Like n n := ⟨rfl, fun _ nd h => ⟨nd, h, rfl, rfl⟩⟩
theorem Like.trans {a b c : List Nd} (h : Like a b) (k : Like b c) : Like a c :=
  ⟨h.1.trans k.1, fun i nd hn => by
    obtain ⟨nd', h1, h2, h3⟩ := h.2 i nd hn
    obtain ⟨nd2, k1, k2, k3⟩ := k.2 i nd' h1
    exact ⟨nd2, k1, k2.trans h2, k3.trans h3⟩⟩

def setTo (n : List Nd) (a : Nat) (b : Int) : List Nd := n.modify a fun x => { x with to := b }
theorem setTo_get (n : List Nd) (a i : Nat) (b : Int) : (setTo n a b)[i]? = (n[i]?).map fun x => if i = a then { x with to := b } else x := by
  simp only [setTo, List.getElem?_modify]
  by_cases h : i = a
  · subst h; simp
  · have h' : ¬ a = i := fun e => h e.symm
    simp [h, h']
@[simp] theorem setTo_length (n : List Nd) (a : Nat) (b : Int) : (setTo n a b).length = n.length := by simp [setTo]
theorem Like.setTo (n : List Nd) (a : Nat) (b : Int) : Like n (setTo n a b) := by
  refine ⟨by simp, fun i nd h => ⟨if i = a then { nd with to := b } else nd, by rw [setTo_get, h]; rfl, ?_, ?_⟩⟩ <;> split <;> rfl
theorem Like.symm {n n' : List Nd} (h : Like n n') : Like n' n := by
  refine ⟨h.1.symm, fun i nd hn => ?_⟩
  have hi : i < n.length := by
    have := (List.getElem?_eq_some_iff.1 hn).1; have := h.1; omega
  obtain ⟨nd', h1, h2, h3⟩ := h.2 i n[i] (List.getElem?_eq_getElem hi)
  rw [hn] at h1; cases h1
  exact ⟨n[i], List.getElem?_eq_getElem hi, h2.symm, h3.symm⟩

theorem Den.like {n n' : List Nd} (hl : Like n n') {i : Nat} {t : T} (h : Den n i t) : Den n' i t := by
  induction h with
  | @mk i nd ts h0 hl' _ ih =>
    obtain ⟨nd', e, h1, h2⟩ := hl.2 _ _ h0
    rw [← h1]
    exact .mk e (by rw [h2]; exact hl') fun k hk hk' => by
      have := ih k (by rw [← h2]; exact hk) hk'
      simpa [h2] using this

structure Net (n : List Nd) : Prop where
  uniq : ∀ (i j : Nat) (x y : Nd), n[i]? = some x → n[j]? = some y → x.head < 0 → x.head = y.head → i = j
  leaf : ∀ (i : Nat) (x : Nd), n[i]? = some x → x.head < 0 → x.args = []
  plain : ∀ (i : Nat) (x : Nd), n[i]? = some x → 0 ≤ x.head → x.to < 0
  tos : ∀ (i : Nat) (x : Nd), n[i]? = some x → x.to < n.length
  den : ∀ i, i < n.length → ∃ t, Den n i t ∧ Low t

/-- what is bound, is bound in s, too -/
structure Rep (n : List Nd) (s : Sub) : Prop where
  free : ∀ (i : Nat) (x : Nd), n[i]? = some x → x.head < 0 → x.to < 0 → s (-1 - x.head) = none
  bound : ∀ (i : Nat) (x : Nd), n[i]? = some x → x.head < 0 → 0 ≤ x.to → ∃ u, s (-1 - x.head) = some u ∧ Den n x.to.toNat u
  back : ∀ v u, s v = some u → ∃ (i : Nat) (x : Nd), n[i]? = some x ∧ x.head = -1 - v ∧ x.head < 0 ∧ 0 ≤ x.to

inductive Beh (n : List Nd) : Nat → Nat → Prop
  | here {i : Nat} {nd : Nd} : n[i]? = some nd → nd.to < 0 → Beh n i i
  | step {i : Nat} {nd : Nd} {j : Nat} : n[i]? = some nd → 0 ≤ nd.to → Beh n nd.to.toNat j → Beh n i j

theorem Beh.det {n : List Nd} {i j : Nat} (h : Beh n i j) : ∀ {k}, Beh n i k → j = k := by
  induction h with
  | here h0 h1 =>
    intro k hk
    cases hk with
    | here => rfl
    | step h2 h3 => rw [h0] at h2; cases h2; omega
  | step h0 h1 _ ih =>
    intro k hk
    cases hk with
    | here h2 h3 => rw [h0] at h2; cases h2; omega
    | step h2 _ h3 => rw [h0] at h2; cases h2; exact ih h3
theorem Beh.at_end {n : List Nd} {i j : Nat} (h : Beh n i j) : ∃ nd : Nd, n[j]? = some nd ∧ nd.to < 0 := by
  induction h with
  | here h0 h1 => exact ⟨_, h0, h1⟩
  | step _ _ _ ih => exact ih

/-- following in the net is following in the substitution -/
theorem Beh.of_full {n : List Nd} {s : Sub} (hn : Net n) (hr : Rep n s) {t t' : T} (h : Full s t t') : ∀ {i}, Den n i t → ∃ (j : Nat) (u : T) (nd : Nd), Beh n i j ∧ Den n j u ∧ Walk s t u ∧ Full s u t' ∧ n[j]? = some nd ∧ nd.to < 0 ∧ nd.head = u.head := by
  induction h with
  | @free hd as h0 hs =>
    intro i hi
    cases hi with
    | @mk _ nd ts e hl hk =>
      have : nd.to < 0 := by
        by_cases c : nd.to < 0
        · exact c
        · obtain ⟨u, hu, _⟩ := hr.bound i nd e h0 (by omega)
          rw [hs] at hu; cases hu
      exact ⟨i, _, nd, .here e this, .mk e hl hk, .free h0 hs, .free h0 hs, e, this, rfl⟩
  | @bound hd as u t' h0 hs _ ih =>
    intro i hi
    cases hi with
    | @mk _ nd ts e hl hk =>
      have : 0 ≤ nd.to := by
        by_cases c : nd.to < 0
        · have := hr.free i nd e h0 c
          rw [hs] at this; cases this
        · omega
      obtain ⟨u', hu, hd⟩ := hr.bound i nd e h0 this
      rw [hs] at hu; cases hu
      obtain ⟨j, u', nd', h1, h2, h3, h4, h5, h6, h7⟩ := ih hd
      exact ⟨j, u', nd', .step e this h1, h2, .step h0 hs h3, h4, h5, h6, h7⟩
  | @node hd as as' h0 hl hh _ =>
    intro i hi
    cases hi with
    | @mk _ nd ts e hl' hk =>
      have := hn.plain i nd e h0
      exact ⟨i, _, nd, .here e this, .mk e hl' hk, .node h0, .node h0 hl hh, e, this, rfl⟩

/-! ### what lies under a part, strictly -/
inductive Under (n : List Nd) (a : Nat) : Nat → Prop
  | arg {nd : Nd} {x : Nat} : n[a]? = some nd → x ∈ nd.args → Under n a x
  | more {x : Nat} {nd : Nd} {y : Nat} : Under n a x → n[x]? = some nd → y ∈ nd.args → Under n a y
  | to {x : Nat} {nd : Nd} : Under n a x → n[x]? = some nd → 0 ≤ nd.to → Under n a nd.to.toNat
theorem Under.beh {n : List Nd} {a i j : Nat} (h : Beh n i j) : Under n a i → Under n a j := by
  induction h with
  | here => exact id
  | step h0 h1 _ ih => exact fun hu => ih (.to hu h0 h1)

theorem Full.size_arg {s : Sub} {h : Int} {as : List T} {f : T} (h0 : 0 ≤ h) (hf : Full s (.mk h as) f) {k : Nat} (hk : k < as.length) {g : T} (hg : Full s as[k] g) : g.size < f.size := by
  cases hf with
  | free h1 => omega
  | bound h1 => omega
  | @node _ _ as' _ hl hh =>
    have := hg.det (hh k hk (by omega))
    subst this
    exact T.size_lt (List.getElem_mem _)

theorem Under.size {n : List Nd} {s : Sub} (ht : Tot s) (hn : Net n) (hr : Rep n s) {a x : Nat} (h : Under n a x) : ∀ {ta tx fa fx}, Den n a ta → Full s ta fa → Den n x tx → Full s tx fx → fx.size < fa.size := by
  have low : ∀ {i : Nat} {nd : Nd} {x : Nat} {t f tx fx}, n[i]? = some nd → x ∈ nd.args → Den n i t → Full s t f → Den n x tx → Full s tx fx → fx.size < f.size := by
    intro i nd x t f tx fx e hx hd hf hdx hfx
    cases hd with
    | @mk _ nd' ts e' hl hk =>
      rw [e] at e'; cases e'
      have h0 : 0 ≤ nd.head := by
        by_cases c : nd.head < 0
        · rw [hn.leaf i nd e c] at hx; cases hx
        · omega
      obtain ⟨k, hk1, rfl⟩ := List.mem_iff_getElem.1 hx
      have e2 := (hk k hk1 (by omega)).det hdx
      refine hf.size_arg h0 (k := k) (by omega) ?_
      rw [e2]; exact hfx
  induction h with
  | arg e hx =>
    intro ta tx fa fx h1 h2 h3 h4
    exact low e hx h1 h2 h3 h4
  | @more x nd y hu e hy ih =>
    intro ta tx fa fx h1 h2 h3 h4
    have hlt : x < n.length := (List.getElem?_eq_some_iff.1 e).1
    obtain ⟨tm, hm, _⟩ := hn.den x hlt
    obtain ⟨fm, hfm⟩ := ht tm
    have k1 := ih h1 h2 hm hfm
    have k2 := low e hy hm hfm h3 h4
    omega
  | @to x nd hu e h0 ih =>
    intro ta tx fa fx h1 h2 h3 h4
    have hlt : x < n.length := (List.getElem?_eq_some_iff.1 e).1
    obtain ⟨tm, hm, _⟩ := hn.den x hlt
    have hneg : nd.head < 0 := by
      by_cases c : nd.head < 0
      · exact c
      · have := hn.plain x nd e (by omega); omega
    obtain ⟨u, hu1, hu2⟩ := hr.bound x nd e hneg h0
    have e2 := hu2.det h3
    subst e2
    cases hm with
    | @mk _ nd' ts e' hl hk =>
      rw [e] at e'; cases e'
      exact ih h1 h2 (.mk e hl hk) (.bound hneg hu1 h4)
end Go.Proofs.Ytokhnlhffnidmaa.Elen
namespace Go.Proofs.Ytokhnlhffnidmaa.Elen

/-! ### the reference's run -/
def NdHead (n : List Nd) (i : Nat) (h : Int) : Prop := ∃ nd : Nd, n[i]? = some nd ∧ nd.head = h
def NdArgs (n : List Nd) (i : Nat) (l : List Nat) : Prop := ∃ nd : Nd, n[i]? = some nd ∧ nd.args = l

abbrev Met := Nat → Nat → Bool
def Met.add (m : Met) (a b : Nat) : Met := fun i j => if i = a ∧ j = b then true else m i j

/-- two nodes at work: the left one is the variable that is bound, if one is -/
structure At2 (n : List Nd) (i j a b : Nat) (x y : Nd) : Prop where
  which : (a = i ∧ b = j ∧ ¬ (y.head < 0 ∧ (0 ≤ x.head ∨ y.head < x.head))) ∨ (a = j ∧ b = i ∧ (x.head < 0 ∧ (0 ≤ y.head ∨ x.head < y.head)))
  ga : n[a]? = some x
  gb : n[b]? = some y

inductive RRun : List Nd → Sub → Met → List (Nat × Nat) → Option (List Nd × Sub) → Prop
  | nil {n s m} : RRun n s m [] (some (n, s))
  | skip {n s m p i j l r} : Beh n p.1 i → Beh n p.2 j → (i = j ∨ m i j = true) → RRun n s m l r → RRun n s m (p :: l) r
  | occurs {n s m p i j a b l t t'} {x y : Nd} : Beh n p.1 i → Beh n p.2 j → i ≠ j → m i j = false → At2 n i j a b x y → x.head < 0 → Den n b t → Full s t t' → T.has (-1 - x.head) t' = true → RRun n s m (p :: l) none
  | bind {n s m p i j a b l r t t'} {x y : Nd} : Beh n p.1 i → Beh n p.2 j → i ≠ j → m i j = false → At2 n i j a b x y → x.head < 0 → Den n b t → Full s t t' → T.has (-1 - x.head) t' = false → RRun (setTo n a b) (s.set (-1 - x.head) t) m l r → RRun n s m (p :: l) r
  | clash {n s m p i j l} {x y : Nd} : Beh n p.1 i → Beh n p.2 j → i ≠ j → m i j = false → n[i]? = some x → n[j]? = some y → 0 ≤ x.head → 0 ≤ y.head → (x.head ≠ y.head ∨ x.args.length ≠ y.args.length) → RRun n s m (p :: l) none
  | node {n s m p i j l r} {x y : Nd} : Beh n p.1 i → Beh n p.2 j → i ≠ j → m i j = false → n[i]? = some x → n[j]? = some y → 0 ≤ x.head → 0 ≤ y.head → x.head = y.head → x.args.length = y.args.length → RRun n s (m.add i j) (x.args.zip y.args ++ l) r → RRun n s m (p :: l) r

def Ext (s s' : Sub) : Prop := ∀ v u, s v = some u → s' v = some u
theorem Ext.refl (s : Sub) : Ext s s := fun _ _ h => h
theorem Ext.trans {a b c : Sub} (h : Ext a b) (k : Ext b c) : Ext a c := fun v u e => k v u (h v u e)
theorem Ext.set {s : Sub} {v : Int} {t : T} (hf : s v = none) : Ext s (s.set v t) := by
  intro n u h
  simp only [Sub.set]
  split
  · rename_i e; rw [e, hf] at h; cases h
  · exact h

/-- written out by s', both are the same -/
def EqAt (n : List Nd) (s' : Sub) (p : Nat × Nat) : Prop := ∀ ti tj fi fj, Den n p.1 ti → Den n p.2 tj → Full s' ti fi → Full s' tj fj → fi = fj

/-- what is bound by s is bound by s', too: where Beh leads, s' writes out the same -/
theorem Beh.full_to {n : List Nd} {s s' : Sub} (hn : Net n) (hr : Rep n s) (he : Ext s s') {i j : Nat} (h : Beh n i j) : ∀ {ti tj f}, Den n i ti → Den n j tj → Full s' ti f → Full s' tj f := by
  induction h with
  | here => intro ti tj f h1 h2 h3; rw [h2.det h1]; exact h3
  | @step i nd j h0 h1 _ ih =>
    intro ti tj f k1 k2 k3
    have hneg : nd.head < 0 := by
      by_cases c : nd.head < 0
      · exact c
      · have := hn.plain i nd h0 (by omega); omega
    obtain ⟨u, hu, hd⟩ := hr.bound i nd h0 hneg h1
    refine ih hd k2 ?_
    cases k1 with
    | @mk _ nd' ts e hl hk =>
      rw [h0] at e; cases e
      cases k3 with
      | free _ h2 => rw [he _ _ hu] at h2; cases h2
      | bound _ h2 h3 => rw [he _ _ hu] at h2; cases h2; exact h3
      | node h2 => omega

def MetOK (n : List Nd) (s : Sub) (m : Met) (l : List (Nat × Nat)) : Prop := ∀ a b, m a b = true → ∃ k, k ≤ l.length ∧ (∀ p, p ∈ l.take k → Under n a p.1) ∧ (∀ s', Ext s s' → (∀ p, p ∈ l.take k → EqAt n s' p) → EqAt n s' (a, b))

theorem Rep.full_unique {n : List Nd} {s s' : Sub} (h : Rep n s) (h' : Rep n s') : s = s' := by
  funext v
  cases e : s v with
  | some u =>
    obtain ⟨i, x, h1, h2, h3, h4⟩ := h.back v u e
    obtain ⟨u', k1, k2⟩ := h'.bound i x h1 h3 h4
    obtain ⟨u2, k3, k4⟩ := h.bound i x h1 h3 h4
    have hv : -1 - x.head = v := by omega
    rw [hv] at k1 k3
    rw [e] at k3; cases k3
    rw [k1, k4.det k2]
  | none =>
    cases e' : s' v with
    | none => rfl
    | some u =>
      obtain ⟨i, x, h1, h2, h3, h4⟩ := h'.back v u e'
      obtain ⟨u2, k3, k4⟩ := h.bound i x h1 h3 h4
      have hv : -1 - x.head = v := by omega
      rw [hv, e] at k3; cases k3

/-- a pair at work, of the net and of terms -/
structure Two (n : List Nd) (s : Sub) (p : Nat × Nat) where
  i : Nat
  j : Nat
  x : Nd
  y : Nd
  tx : T
  ty : T
  fx : T
  fy : T
  bi : Beh n p.1 i
  bj : Beh n p.2 j
  gi : n[i]? = some x
  gj : n[j]? = some y
  di : Den n i tx
  dj : Den n j ty
  hi : tx.head = x.head
  hj : ty.head = y.head
  wi : ∃ t, Den n p.1 t ∧ Walk s t tx ∧ Full s t fx
  wj : ∃ t, Den n p.2 t ∧ Walk s t ty ∧ Full s t fy
  fi : Full s tx fx
  fj : Full s ty fy
  oi : x.to < 0
  oj : y.to < 0

theorem two_of {n : List Nd} {s : Sub} (ht : Tot s) (hn : Net n) (hr : Rep n s) (p : Nat × Nat) (h1 : p.1 < n.length) (h2 : p.2 < n.length) : Nonempty (Two n s p) := by
  obtain ⟨ta, ha, _⟩ := hn.den _ h1
  obtain ⟨tb, hb, _⟩ := hn.den _ h2
  obtain ⟨fa, hfa⟩ := ht ta
  obtain ⟨fb, hfb⟩ := ht tb
  obtain ⟨i, u, nd, k1, k2, k3, k4, k5, k6, k7⟩ := Beh.of_full hn hr hfa ha
  obtain ⟨j, u', nd', l1, l2, l3, l4, l5, l6, l7⟩ := Beh.of_full hn hr hfb hb
  exact ⟨⟨i, j, nd, nd', u, u', fa, fb, k1, l1, k5, l5, k2, l2, k7.symm, l7.symm, ⟨ta, ha, k3, hfa⟩, ⟨tb, hb, l3, hfb⟩, k4, l4, k6, l6⟩⟩


def PairsDen (n : List Nd) (l : List (Nat × Nat)) (L : List (T × T)) : Prop := l.length = L.length ∧ ∀ k (hk : k < l.length) (hk' : k < L.length), Den n l[k].1 L[k].1 ∧ Den n l[k].2 L[k].2
theorem PairsDen.cons_inv {n : List Nd} {p : Nat × Nat} {l : List (Nat × Nat)} {L : List (T × T)} (h : PairsDen n (p :: l) L) : ∃ a b L', L = (a, b) :: L' ∧ Den n p.1 a ∧ Den n p.2 b ∧ PairsDen n l L' := by
  obtain ⟨e, h⟩ := h
  cases L with
  | nil => simp at e
  | cons q L => exact ⟨q.1, q.2, L, rfl, (h 0 (by simp) (by simp)).1, (h 0 (by simp) (by simp)).2, by simpa using e, fun k hk hk' => h (k + 1) (by simpa using hk) (by simpa using hk')⟩
theorem PairsDen.like {n n' : List Nd} (hl : Like n n') {l : List (Nat × Nat)} {L : List (T × T)} (h : PairsDen n l L) : PairsDen n' l L :=
  ⟨h.1, fun k hk hk' => ⟨(h.2 k hk hk').1.like hl, (h.2 k hk hk').2.like hl⟩⟩
theorem PairsDen.zip {n : List Nd} {xs ys : List Nat} {as bs : List T} {l : List (Nat × Nat)} {L : List (T × T)} (h1 : xs.length = as.length) (h2 : ys.length = bs.length) (he : xs.length = ys.length)
    (k1 : ∀ k (hk : k < xs.length) (hk' : k < as.length), Den n xs[k] as[k]) (k2 : ∀ k (hk : k < ys.length) (hk' : k < bs.length), Den n ys[k] bs[k]) (h : PairsDen n l L) : PairsDen n (xs.zip ys ++ l) (as.zip bs ++ L) := by
  have e1 : (xs.zip ys).length = xs.length := by simp [he]
  have e2 : (as.zip bs).length = xs.length := by simp; omega
  refine ⟨by simp only [List.length_append, e1, e2]; have := h.1; omega, fun k hk hk' => ?_⟩
  by_cases c : k < xs.length
  · rw [List.getElem_append_left (by omega), List.getElem_append_left (by omega)]
    simp only [List.getElem_zip]
    exact ⟨k1 k c (by omega), k2 k (by omega) (by omega)⟩
  · rw [List.getElem_append_right (by omega), List.getElem_append_right (by omega)]
    simp only [e1, e2]
    exact h.2 _ _ _

/-- what is bound anew keeps the net a net -/
theorem Net.bind {n : List Nd} {s : Sub} (hn : Net n) (hr : Rep n s) {a b : Nat} {x : Nd} {t : T} (ga : n[a]? = some x) (h0 : x.head < 0) (hto : x.to < 0) (hb : b < n.length) (hd : Den n b t) : Net (setTo n a b) ∧ Rep (setTo n a b) (s.set (-1 - x.head) t) := by
  have get : ∀ (i : Nat) (y : Nd), (setTo n a b)[i]? = some y → ∃ y0 : Nd, n[i]? = some y0 ∧ y.head = y0.head ∧ y.args = y0.args ∧ ((i = a ∧ y.to = b) ∨ (i ≠ a ∧ y.to = y0.to)) := by
    intro i y h
    rw [setTo_get] at h
    obtain ⟨y0, e, rfl⟩ := Option.map_eq_some_iff.1 h
    refine ⟨y0, e, ?_⟩
    by_cases c : i = a
    · simp [c]
    · simp [c]
  have lk := Like.setTo n a (b : Int)
  constructor
  · refine ⟨fun i j y z hy hz h1 h2 => ?_, fun i y hy h1 => ?_, fun i y hy h1 => ?_, fun i y hy => ?_, fun i hi => ?_⟩
    · obtain ⟨y0, e1, e2, _⟩ := get i y hy
      obtain ⟨z0, f1, f2, _⟩ := get j z hz
      exact hn.uniq i j y0 z0 e1 f1 (by omega) (by omega)
    · obtain ⟨y0, e1, e2, e3, _⟩ := get i y hy
      rw [e3]; exact hn.leaf i y0 e1 (by omega)
    · obtain ⟨y0, e1, e2, e3, h | h⟩ := get i y hy
      · obtain ⟨rfl, h⟩ := h
        rw [ga] at e1; cases e1; omega
      · rw [h.2]; exact hn.plain i y0 e1 (by omega)
    · obtain ⟨y0, e1, e2, e3, h | h⟩ := get i y hy
      · simp; omega
      · rw [h.2]; simpa using hn.tos i y0 e1
    · obtain ⟨t, ht, hl⟩ := hn.den i (by simpa using hi)
      exact ⟨t, ht.like lk, hl⟩
  · refine ⟨fun i y hy h1 h2 => ?_, fun i y hy h1 h2 => ?_, fun v u hv => ?_⟩
    · obtain ⟨y0, e1, e2, e3, h | h⟩ := get i y hy
      · omega
      · have : s (-1 - y0.head) = none := hr.free i y0 e1 (by omega) (by omega)
        rw [e2]
        simp only [Sub.set]
        split
        · rename_i c
          exact absurd (hn.uniq i a y0 x e1 ga (by omega) (by omega)) h.1
        · exact this
    · obtain ⟨y0, e1, e2, e3, h | h⟩ := get i y hy
      · obtain ⟨rfl, h⟩ := h
        rw [ga] at e1; cases e1
        refine ⟨t, ?_, ?_⟩
        · simp [Sub.set, e2]
        · rw [h]; simpa using hd.like lk
      · obtain ⟨u, k1, k2⟩ := hr.bound i y0 e1 (by omega) (by omega)
        refine ⟨u, ?_, ?_⟩
        · rw [e2]; simp only [Sub.set]
          split
          · rename_i c
            exact absurd (hn.uniq i a y0 x e1 ga (by omega) (by omega)) h.1
          · exact k1
        · rw [h.2]; exact k2.like lk
    · simp only [Sub.set] at hv
      split at hv
      · rename_i c
        refine ⟨a, { x with to := (b : Int) }, ?_, ?_, h0, ?_⟩
        · rw [setTo_get, ga]; simp
        · simp; omega
        · simp
      · rename_i c
        obtain ⟨i, y, k1, k2, k3, k4⟩ := hr.back v u hv
        have : i ≠ a := by
          rintro rfl
          rw [ga] at k1; cases k1; omega
        exact ⟨i, y, by rw [setTo_get, k1]; simp [this], k2, k3, k4⟩

theorem Under.bind {n : List Nd} {a b c z : Nat} {x : Nd} (ga : n[a]? = some x) (hto : x.to < 0) (h : Under n c z) : Under (setTo n a b) c z := by
  have lk := Like.setTo n a (b : Int)
  induction h with
  | arg e hx =>
    obtain ⟨nd', e', _, h2⟩ := lk.2 _ _ e
    exact .arg e' (by rw [h2]; exact hx)
  | more _ e hy ih =>
    obtain ⟨nd', e', _, h2⟩ := lk.2 _ _ e
    exact .more ih e' (by rw [h2]; exact hy)
  | @to z nd _ e h0 ih =>
    have : z ≠ a := by
      rintro rfl
      rw [ga] at e; cases e; omega
    exact .to ih (nd := nd) (by rw [setTo_get, e]; simp [this]) h0

end Go.Proofs.Ytokhnlhffnidmaa.Elen
namespace Go.Proofs.Ytokhnlhffnidmaa.Elen
/-- the same with the number of steps -/
inductive BehK (n : List Nd) : Nat → Nat → Nat → Prop
  | here {i : Nat} {nd : Nd} : n[i]? = some nd → nd.to < 0 → BehK n 0 i i
  | step {k i : Nat} {nd : Nd} {j : Nat} : n[i]? = some nd → 0 ≤ nd.to → BehK n k nd.to.toNat j → BehK n (k + 1) i j
theorem Beh.count {n : List Nd} {i j : Nat} (h : Beh n i j) : ∃ k, BehK n k i j := by
  induction h with
  | here h1 h2 => exact ⟨0, .here h1 h2⟩
  | step h1 h2 _ ih => obtain ⟨k, ih⟩ := ih; exact ⟨k + 1, .step h1 h2 ih⟩
end Go.Proofs.Ytokhnlhffnidmaa.Elen
