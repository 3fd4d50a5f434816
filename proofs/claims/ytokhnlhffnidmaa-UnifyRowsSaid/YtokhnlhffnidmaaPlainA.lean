/- Terms, and the run of the unifier, without the program. -/
namespace Go.Proofs.Ytokhnlhffnidmaa.Elen

/-- A term: a head (below 0: a variable), and arguments. -/
inductive T where
  | mk (h : Int) (as : List T)

namespace T
def head : T → Int | mk h _ => h
def args : T → List T | mk _ as => as
@[simp] theorem head_mk (h as) : (mk h as).head = h := rfl
@[simp] theorem args_mk (h as) : (mk h as).args = as := rfl
theorem eta (t : T) : mk t.head t.args = t := by cases t; rfl
theorem ext' {a b : T} (h : a.head = b.head) (k : a.args = b.args) : a = b := by
  cases a; cases b; simp_all

mutual
def size : T → Nat
  | mk _ as => sizeL as + 1
def sizeL : List T → Nat
  | [] => 0
  | a :: as => size a + sizeL as
end
mutual
def depth : T → Nat
  | mk _ as => depthL as + 1
def depthL : List T → Nat
  | [] => 0
  | a :: as => max (depth a) (depthL as)
end
theorem size_pos (t : T) : 0 < size t := by cases t; simp [size]
theorem depth_pos (t : T) : 0 < depth t := by cases t; simp [depth]
theorem size_mem {a : T} : ∀ {as : List T}, a ∈ as → size a ≤ sizeL as
  | [], h => by cases h
  | b :: bs, h => by
    simp only [sizeL]
    cases h with
    | head => omega
    | tail _ h => have := size_mem h; omega
theorem size_lt {h : Int} {as : List T} {a : T} (m : a ∈ as) : size a < size (mk h as) := by
  have := size_mem m; simp only [size]; omega
theorem sizeL_append (as bs : List T) : sizeL (as ++ bs) = sizeL as + sizeL bs := by
  induction as with
  | nil => simp [sizeL]
  | cons a as ih => simp only [List.cons_append, sizeL, ih]; omega

/-- induction -/
theorem ind {P : T → Prop} (h : ∀ hd as, (∀ a, a ∈ as → P a) → P (mk hd as)) : ∀ t, P t := by
  intro t
  have key : ∀ n t, size t ≤ n → P t := by
    intro n
    induction n with
    | zero => intro t ht; have := size_pos t; omega
    | succ n ih =>
      intro t ht
      cases t with
      | mk hd as => exact h hd as fun a ha => ih a (by have := size_lt (h := hd) ha; omega)
  exact key _ t (Nat.le_refl _)
end T


/-! ### substitutions as found -/
abbrev Sub := Int → Option T     -- of a variable's number

mutual
def T.has (v : Int) : T → Bool
  | .mk h as => (h < 0 && decide (-1 - h = v)) || T.hasL v as
def T.hasL (v : Int) : List T → Bool
  | [] => false
  | a :: as => T.has v a || T.hasL v as
end

/-- Full s t t': t' is t with all that is bound put, again and again. A variable's arguments are not looked at. -/
inductive Full (s : Sub) : T → T → Prop
  | free {h : Int} {as} : h < 0 → s (-1 - h) = none → Full s (.mk h as) (.mk h [])
  | bound {h : Int} {as u t'} : h < 0 → s (-1 - h) = some u → Full s u t' → Full s (.mk h as) t'
  | node {h : Int} {as as'} : 0 ≤ h → as.length = as'.length → (∀ i (hi : i < as.length) (hi' : i < as'.length), Full s as[i] as'[i]) → Full s (.mk h as) (.mk h as')

theorem Full.det {s : Sub} {t a : T} (h : Full s t a) : ∀ {b}, Full s t b → a = b := by
  induction h with
  | free h0 hs =>
    intro b hb
    cases hb with
    | free => rfl
    | bound _ h2 => rw [hs] at h2; cases h2
    | node h1 => omega
  | bound h0 hs _ ih =>
    intro b hb
    cases hb with
    | free _ h2 => rw [hs] at h2; cases h2
    | bound _ h2 h3 => rw [hs] at h2; cases h2; exact ih h3
    | node h1 => omega
  | node h0 hl _ ih =>
    intro b hb
    cases hb with
    | free h1 => omega
    | bound h1 => omega
    | node _ hl2 h2 =>
      congr 1
      apply List.ext_getElem (by omega)
      intro i h1 h3
      exact ih i (by omega) h1 (h2 i (by omega) h3)

theorem T.hasL_iff {v : Int} : ∀ {as : List T}, T.hasL v as = true ↔ ∃ i, ∃ hi : i < as.length, T.has v as[i] = true
  | [] => by simp [T.hasL]
  | a :: as => by
    simp only [T.hasL, Bool.or_eq_true, T.hasL_iff (as := as)]
    constructor
    · rintro (h | ⟨i, hi, h⟩)
      · exact ⟨0, by simp, h⟩
      · exact ⟨i + 1, by simpa using hi, by simpa using h⟩
    · rintro ⟨i, hi, h⟩
      cases i with
      | zero => exact .inl h
      | succ i => exact .inr ⟨i, by simpa using hi, by simpa using h⟩

mutual
/-- another term in the place of one variable -/
def T.put (v : Int) (u : T) : T → T
  | .mk h as => if h < 0 ∧ -1 - h = v then u else .mk h (T.putL v u as)
def T.putL (v : Int) (u : T) : List T → List T
  | [] => []
  | a :: as => T.put v u a :: T.putL v u as
end
theorem T.putL_map (v : Int) (u : T) (as : List T) : T.putL v u as = as.map (T.put v u) := by
  induction as with
  | nil => rfl
  | cons a as ih => simp [T.putL, ih]

def Sub.set (s : Sub) (v : Int) (t : T) : Sub := fun n => if n = v then some t else s n


theorem Full.set_of_not {s : Sub} {v : Int} {t x x' : T} (hf : s v = none) (h : Full s x x') : T.has v x' = false → Full (s.set v t) x x' := by
  induction h with
  | @free h as h0 hs =>
    intro hv
    refine .free h0 ?_
    simp only [T.has, T.hasL, Bool.or_false, Bool.and_eq_false_iff, decide_eq_false_iff_not] at hv
    rcases hv with hv | hv
    · exact absurd h0 hv
    · simp [Sub.set, hv, hs]
  | @bound h as u t' h0 hs _ ih =>
    intro hv
    refine .bound h0 (u := u) ?_ (ih hv)
    simp only [Sub.set]
    split
    · rename_i e
      rw [e, hf] at hs; cases hs
    · exact hs
  | @node h as as' h0 hl _ ih =>
    intro hv
    refine .node h0 hl fun i hi hi' => ih i hi hi' ?_
    have : T.hasL v as' = false := by
      simp only [T.has, Bool.or_eq_false_iff] at hv; exact hv.2
    rcases hc : T.has v as'[i] with _ | _
    · rfl
    · have := (T.hasL_iff (v := v) (as := as')).2 ⟨i, hi', hc⟩; simp_all

theorem Full.set {s : Sub} {v : Int} {t t' x x' : T} (hf : s v = none) (ht : Full s t t') (hv : T.has v t' = false) (h : Full s x x') : Full (s.set v t) x (T.put v t' x') := by
  induction h with
  | @free h as h0 hs =>
    simp only [T.put]
    split
    · rename_i e
      exact .bound h0 (u := t) (by simp [Sub.set, e.2]) (ht.set_of_not hf hv)
    · rename_i e
      refine .free h0 ?_
      have : ¬ (-1 - h = v) := fun k => e ⟨h0, k⟩
      simp [Sub.set, this, hs]
  | @bound h as u t' h0 hs _ ih =>
    refine .bound h0 (u := u) ?_ ih
    simp only [Sub.set]
    split
    · rename_i e
      rw [e, hf] at hs; cases hs
    · exact hs
  | @node h as as' h0 hl _ ih =>
    have e : T.put v t' (T.mk h as') = T.mk h (as'.map (T.put v t')) := by
      simp only [T.put, T.putL_map]; rw [if_neg (by omega)]
    rw [e]
    refine .node h0 (by simpa using hl) fun i hi hi' => ?_
    have := ih i hi (by omega)
    simpa using this

/-- every term can be written out -/
def Tot (s : Sub) : Prop := ∀ t, ∃ t', Full s t t'

theorem Tot.empty : Tot (fun _ => none) := by
  intro t
  induction t using T.ind with
  | h hd as ih =>
    by_cases h0 : hd < 0
    · exact ⟨_, .free h0 rfl⟩
    · have : ∀ (l : List T), (∀ a, a ∈ l → ∃ t', Full (fun _ => none) a t') → ∃ l' : List T, l.length = l'.length ∧ ∀ i (hi : i < l.length) (hi' : i < l'.length), Full (fun _ => none) l[i] l'[i] := by
        intro l
        induction l with
        | nil => intro _; exact ⟨[], rfl, fun i hi => absurd hi (by simp)⟩
        | cons a l ihl =>
          intro hl
          obtain ⟨a', ha⟩ := hl a (by simp)
          obtain ⟨l', e, hl'⟩ := ihl fun b hb => hl b (by simp [hb])
          refine ⟨a' :: l', by simp [e], fun i hi hi' => ?_⟩
          cases i with
          | zero => exact ha
          | succ i => simpa using hl' i (by simpa using hi) (by simpa using hi')
      obtain ⟨l', e, hl'⟩ := this as ih
      exact ⟨.mk hd l', .node (by omega) e hl'⟩

theorem Tot.set {s : Sub} {v : Int} {t t' : T} (hs : Tot s) (hf : s v = none) (ht : Full s t t') (hv : T.has v t' = false) : Tot (s.set v t) := by
  intro x
  obtain ⟨x', hx⟩ := hs x
  exact ⟨_, Full.set hf ht hv hx⟩

/-! ### following a variable -/
inductive Walk (s : Sub) : T → T → Prop
  | node {h : Int} {as} : 0 ≤ h → Walk s (.mk h as) (.mk h as)
  | free {h : Int} {as} : h < 0 → s (-1 - h) = none → Walk s (.mk h as) (.mk h as)
  | step {h : Int} {as u r} : h < 0 → s (-1 - h) = some u → Walk s u r → Walk s (.mk h as) r

theorem Walk.of_full {s : Sub} {t t' : T} (h : Full s t t') : ∃ u, Walk s t u ∧ Full s u t' := by
  induction h with
  | @free h as h0 hs => exact ⟨_, .free h0 hs, .free h0 hs⟩
  | @bound h as u t' h0 hs _ ih => obtain ⟨r, h1, h2⟩ := ih; exact ⟨r, .step h0 hs h1, h2⟩
  | @node h as as' h0 hl hh => exact ⟨_, .node h0, .node h0 hl hh⟩
theorem Walk.free_of {s : Sub} {t u : T} (h : Walk s t u) : u.head < 0 → s (-1 - u.head) = none := by
  induction h with
  | node h0 => intro h; simp at h; omega
  | free h0 hs => intro _; exact hs
  | step _ _ _ ih => exact ih
theorem Walk.full {s : Sub} {t u x : T} (h : Walk s t u) (hf : Full s u x) : Full s t x := by
  induction h with
  | node => exact hf
  | free => exact hf
  | step h0 hs _ ih => exact .bound h0 hs (ih hf)
theorem Walk.det {s : Sub} {t u : T} (h : Walk s t u) : ∀ {r}, Walk s t r → u = r := by
  induction h with
  | node h0 =>
    intro r h
    cases h with
    | node => rfl
    | free h1 => omega
    | step h1 => omega
  | free h0 hs =>
    intro r h
    cases h with
    | node h1 => omega
    | free => rfl
    | step _ h2 => rw [hs] at h2; cases h2
  | step h0 hs _ ih =>
    intro r h
    cases h with
    | node h1 => omega
    | free _ h2 => rw [hs] at h2; cases h2
    | step _ h2 h3 => rw [hs] at h2; cases h2; exact ih h3

/-! ### the run -/
def sw (x y : T) : T × T := if y.head < 0 ∧ (0 ≤ x.head ∨ y.head < x.head) then (y, x) else (x, y)

def Pair2 (s : Sub) (a b x y : T) : Prop := ∃ x0 y0, Walk s a x0 ∧ Walk s b y0 ∧ sw x0 y0 = (x, y)

inductive Run : Sub → List (T × T) → Option Sub → Prop
  | nil {s} : Run s [] (some s)
  | same {s a b x y l r} : Pair2 s a b x y → x.head < 0 → x.head = y.head → Run s l r → Run s ((a, b) :: l) r
  | occurs {s a b x y y' l} : Pair2 s a b x y → x.head < 0 → x.head ≠ y.head → Full s y y' → T.has (-1 - x.head) y' = true → Run s ((a, b) :: l) none
  | bind {s a b x y y' l r} : Pair2 s a b x y → x.head < 0 → x.head ≠ y.head → Full s y y' → T.has (-1 - x.head) y' = false → Run (s.set (-1 - x.head) y) l r → Run s ((a, b) :: l) r
  | clash {s a b x y l} : Pair2 s a b x y → 0 ≤ x.head → (x.head ≠ y.head ∨ x.args.length ≠ y.args.length) → Run s ((a, b) :: l) none
  | node {s a b x y l r} : Pair2 s a b x y → 0 ≤ x.head → x.head = y.head → x.args.length = y.args.length → Run s (x.args.zip y.args ++ l) r → Run s ((a, b) :: l) r

theorem Pair2.det {s : Sub} {a b x y x' y' : T} (h : Pair2 s a b x y) (h' : Pair2 s a b x' y') : x = x' ∧ y = y' := by
  obtain ⟨x0, y0, h1, h2, h3⟩ := h
  obtain ⟨x1, y1, k1, k2, k3⟩ := h'
  rw [h1.det k1, h2.det k2, k3] at h3
  simp at h3; exact ⟨h3.1.symm, h3.2.symm⟩

theorem Run.det {s : Sub} {l : List (T × T)} {r : Option Sub} (h : Run s l r) : ∀ {q}, Run s l q → r = q := by
  induction h with
  | nil => intro q h; cases h; rfl
  | same p h0 he _ ih =>
    intro q h
    cases h with
    | same _ _ _ h => exact ih h
    | occurs p' _ h2 => obtain ⟨rfl, rfl⟩ := p.det p'; exact absurd he h2
    | bind p' _ h2 => obtain ⟨rfl, rfl⟩ := p.det p'; exact absurd he h2
    | clash p' h2 => obtain ⟨rfl, rfl⟩ := p.det p'; omega
    | node p' h2 => obtain ⟨rfl, rfl⟩ := p.det p'; omega
  | occurs p h0 he hf hh =>
    intro q h
    cases h with
    | same p' _ h2 => obtain ⟨rfl, rfl⟩ := p.det p'; exact absurd h2 he
    | occurs => rfl
    | bind p' _ _ h2 h3 => obtain ⟨rfl, rfl⟩ := p.det p'; rw [hf.det h2] at hh; rw [hh] at h3; cases h3
    | clash p' h2 => obtain ⟨rfl, rfl⟩ := p.det p'; omega
    | node p' h2 => obtain ⟨rfl, rfl⟩ := p.det p'; omega
  | bind p h0 he hf hh _ ih =>
    intro q h
    cases h with
    | same p' _ h2 => obtain ⟨rfl, rfl⟩ := p.det p'; exact absurd h2 he
    | occurs p' _ _ h2 h3 => obtain ⟨rfl, rfl⟩ := p.det p'; rw [hf.det h2] at hh; rw [hh] at h3; cases h3
    | bind p' _ _ _ _ h => obtain ⟨rfl, rfl⟩ := p.det p'; exact ih h
    | clash p' h2 => obtain ⟨rfl, rfl⟩ := p.det p'; omega
    | node p' h2 => obtain ⟨rfl, rfl⟩ := p.det p'; omega
  | clash p h0 he =>
    intro q h
    cases h with
    | same p' h2 => obtain ⟨rfl, rfl⟩ := p.det p'; omega
    | occurs p' h2 => obtain ⟨rfl, rfl⟩ := p.det p'; omega
    | bind p' h2 => obtain ⟨rfl, rfl⟩ := p.det p'; omega
    | clash => rfl
    | node p' _ h2 h3 => obtain ⟨rfl, rfl⟩ := p.det p'; exact (he.elim (fun k => absurd h2 k) (fun k => absurd h3 k))
  | node p h0 he hl _ ih =>
    intro q h
    cases h with
    | same p' h2 => obtain ⟨rfl, rfl⟩ := p.det p'; omega
    | occurs p' h2 => obtain ⟨rfl, rfl⟩ := p.det p'; omega
    | bind p' h2 => obtain ⟨rfl, rfl⟩ := p.det p'; omega
    | clash p' _ h2 => obtain ⟨rfl, rfl⟩ := p.det p'; exact (h2.elim (fun k => absurd he k) (fun k => absurd hl k))
    | node p' _ _ _ h => obtain ⟨rfl, rfl⟩ := p.det p'; exact ih h

theorem Pair2.exists_ {s : Sub} (hs : Tot s) (a b : T) : ∃ x y x' y', Pair2 s a b x y ∧ Full s x x' ∧ Full s y y' ∧ (x.head < 0 → s (-1 - x.head) = none) ∧ (y.head < 0 → x.head < 0) := by
  obtain ⟨a', ha⟩ := hs a
  obtain ⟨b', hb⟩ := hs b
  obtain ⟨x0, wx, fx⟩ := Walk.of_full ha
  obtain ⟨y0, wy, fy⟩ := Walk.of_full hb
  by_cases c : y0.head < 0 ∧ (0 ≤ x0.head ∨ y0.head < x0.head)
  · exact ⟨y0, x0, b', a', ⟨x0, y0, wx, wy, by simp [sw, c]⟩, fy, fx, wy.free_of, fun _ => c.1⟩
  · exact ⟨x0, y0, a', b', ⟨x0, y0, wx, wy, by simp only [sw]; rw [if_neg c]⟩, fx, fy, wx.free_of, fun h => by
      by_cases k : x0.head < 0
      · exact k
      · exact absurd ⟨h, .inl (by omega)⟩ c⟩

theorem Pair2.node_of {s : Sub} {a b x y : T} (h : Pair2 s a b x y) (h0 : 0 ≤ x.head) : Walk s a x ∧ Walk s b y := by
  obtain ⟨x0, y0, h1, h2, h3⟩ := h
  simp only [sw] at h3
  split at h3
  · rename_i c; simp at h3; rw [← h3.1] at h0; omega
  · simp at h3; rw [← h3.1, ← h3.2]; exact ⟨h1, h2⟩

/-- Both are the same, written out: nothing is done. -/
theorem Run.skip {s : Sub} : ∀ (n : Nat) {a b c : T} {l r}, T.size c ≤ n → Full s a c → Full s b c → Run s l r → Run s ((a, b) :: l) r := by
  intro n
  induction n with
  | zero => intro a b c l r h; have := T.size_pos c; omega
  | succ n ih =>
    intro a b c l r hn ha hb hr
    obtain ⟨x, wx, fx⟩ := Walk.of_full ha
    obtain ⟨y, wy, fy⟩ := Walk.of_full hb
    have px := wx.free_of
    have py := wy.free_of
    by_cases hx : x.head < 0
    · have cx : c.head = x.head := by
        cases fx with
        | free => rfl
        | bound h1 h2 => rw [T.head_mk] at px hx; rw [px hx] at h2; cases h2
        | node h1 => rw [T.head_mk] at hx; omega
      have hy : y.head = x.head := by
        cases fy with
        | free => exact cx
        | bound h1 h2 => rw [T.head_mk] at py; rw [py h1] at h2; cases h2
        | node h1 => rw [T.head_mk] at cx ⊢; omega
      exact .same (x := x) (y := y) ⟨x, y, wx, wy, by simp only [sw]; rw [if_neg (by omega)]⟩ hx hy.symm hr
    · cases fx with
      | free h1 => rw [T.head_mk] at hx; omega
      | bound h1 => rw [T.head_mk] at hx; omega
      | @node h as as' h0 hl hh =>
        cases fy with
        | free h1 => omega
        | bound h1 h2 => rw [T.head_mk] at py; rw [py h1] at h2; cases h2
        | @node _ bs _ h0' hl' hh' =>
          refine .node (x := .mk h as) (y := .mk h bs) ⟨_, _, wx, wy, by simp only [sw]; rw [if_neg (by simp only [T.head_mk]; omega)]⟩ h0 rfl (by simp only [T.args_mk]; omega) ?_
          simp only [T.args_mk]
          have key : ∀ (as bs cs : List T), as.length = cs.length → bs.length = cs.length → (∀ i (hi : i < as.length) (hi' : i < cs.length), Full s as[i] cs[i]) → (∀ i (hi : i < bs.length) (hi' : i < cs.length), Full s bs[i] cs[i]) → T.sizeL cs ≤ n → Run s (as.zip bs ++ l) r := by
            intro as
            induction as with
            | nil => intro bs cs _ _ _ _ _; simpa using hr
            | cons a as iha =>
              intro bs cs e1 e2 f1 f2 hz
              cases cs with
              | nil => simp at e1
              | cons c cs =>
                cases bs with
                | nil => simp at e2
                | cons b bs =>
                  simp only [T.sizeL] at hz
                  simp only [List.zip_cons_cons, List.cons_append]
                  refine ih (c := c) (by omega) (f1 0 (by simp) (by simp)) (f2 0 (by simp) (by simp)) ?_
                  refine iha bs cs (by simpa using e1) (by simpa using e2) (fun i hi hi' => ?_) (fun i hi hi' => ?_) (by omega)
                  · exact f1 (i + 1) (by simpa using hi) (by simpa using hi')
                  · exact f2 (i + 1) (by simpa using hi) (by simpa using hi')
          exact key as bs as' hl hl' hh hh' (by simp only [T.size] at hn; omega)

/-! ### variables of small numbers; how many are free -/
def Low (t : T) : Prop := ∀ v, T.has v t = true → v < 256
def LowS (s : Sub) : Prop := ∀ n u, s n = some u → Low u
theorem Low.arg {h : Int} {as : List T} (hl : Low (.mk h as)) {a : T} (m : a ∈ as) : Low a := by
  intro v hv
  refine hl v ?_
  obtain ⟨i, hi, rfl⟩ := List.mem_iff_getElem.1 m
  simp only [T.has, Bool.or_eq_true]
  exact .inr (T.hasL_iff.2 ⟨i, hi, hv⟩)
theorem Low.var {h : Int} {as : List T} (hl : Low (.mk h as)) (h0 : h < 0) : -1 - h < 256 := hl _ (by simp [T.has, h0])
theorem Low.node {h : Int} {as : List T} (h0 : 0 ≤ h) (hl : ∀ a, a ∈ as → Low a) : Low (.mk h as) := by
  intro v hv
  simp only [T.has, Bool.or_eq_true, Bool.and_eq_true, decide_eq_true_eq] at hv
  rcases hv with ⟨h1, _⟩ | hv
  · omega
  · obtain ⟨i, hi, hv⟩ := T.hasL_iff.1 hv
    exact hl _ (List.getElem_mem hi) v hv
theorem Full.low {s : Sub} (hs : LowS s) {t t' : T} (h : Full s t t') : Low t → Low t' := by
  induction h with
  | @free h as h0 _ =>
    intro hl v hv
    simp [T.has, T.hasL] at hv
    have := hl.var h0
    omega
  | bound h0 h1 _ ih => intro _; exact ih (hs _ _ h1)
  | @node h as as' h0 hl hh ih =>
    intro hw
    refine Low.node h0 fun a ha => ?_
    obtain ⟨i, hi, rfl⟩ := List.mem_iff_getElem.1 ha
    exact ih i (by omega) hi (hw.arg (List.getElem_mem _))
theorem Walk.low {s : Sub} (hs : LowS s) {t u : T} (h : Walk s t u) : Low t → Low u := by
  induction h with
  | node => exact id
  | free => exact id
  | step _ h1 _ ih => intro _; exact ih (hs _ _ h1)

def cnt (s : Sub) : Nat := ((List.range 256).filter fun n : Nat => (s (n : Int)).isNone).length
theorem filter_le {α : Type} (p q : α → Bool) (l : List α) (h : ∀ x, q x = true → p x = true) : (l.filter q).length ≤ (l.filter p).length := by
  induction l with
  | nil => simp
  | cons c l ihl =>
    by_cases hc : q c = true
    · rw [List.filter_cons_of_pos hc, List.filter_cons_of_pos (h c hc)]; simpa using ihl
    · rw [List.filter_cons_of_neg hc]
      by_cases hd : p c = true
      · rw [List.filter_cons_of_pos hd]; simp; omega
      · rw [List.filter_cons_of_neg hd]; exact ihl
theorem filter_lt {α : Type} (p q : α → Bool) (l : List α) (h : ∀ x, q x = true → p x = true) {a : α} (ha : a ∈ l) (hp : p a = true) (hq : q a = false) : (l.filter q).length < (l.filter p).length := by
  induction l with
  | nil => cases ha
  | cons b l ih =>
    have hle := filter_le p q l h
    cases ha with
    | head => rw [List.filter_cons_of_pos hp, List.filter_cons_of_neg (by simp [hq])]; simp; omega
    | tail _ ha =>
      have := ih ha
      by_cases hc : q b = true
      · rw [List.filter_cons_of_pos hc, List.filter_cons_of_pos (h b hc)]; simpa using this
      · rw [List.filter_cons_of_neg hc]
        by_cases hd : p b = true
        · rw [List.filter_cons_of_pos hd]; simp; omega
        · rw [List.filter_cons_of_neg hd]; exact this
theorem cnt_set {s : Sub} {v : Int} {t : T} (h0 : 0 ≤ v) (h1 : v < 256) (hf : s v = none) : cnt (s.set v t) < cnt s := by
  obtain ⟨n, rfl⟩ := Int.eq_ofNat_of_zero_le h0
  refine filter_lt _ _ _ (fun x hx => ?_) (a := n) (by simp; omega) (by simp [hf]) (by simp [Sub.set])
  simp only [Sub.set] at hx
  split at hx
  · simp at hx
  · exact hx

/-- what is at work: every term can be written out, all variables are of small numbers -/
structure Fine (s : Sub) : Prop where
  tot : Tot s
  low : LowS s
theorem Fine.set {s : Sub} {v : Int} {t t' : T} (hs : Fine s) (hf : s v = none) (ht : Full s t t') (hv : T.has v t' = false) (hl : Low t) : Fine (s.set v t) := by
  refine ⟨hs.tot.set hf ht hv, fun n u hu => ?_⟩
  simp only [Sub.set] at hu
  split at hu
  · cases hu; exact hl
  · exact hs.low n u hu

def Fulls (s : Sub) (l fs : List T) : Prop := l.length = fs.length ∧ ∀ i (hi : i < l.length) (hi' : i < fs.length), Full s l[i] fs[i]
theorem Tot.fulls {s : Sub} (h : Tot s) (l : List T) : ∃ fs, Fulls s l fs := by
  induction l with
  | nil => exact ⟨[], rfl, fun i hi => absurd hi (by simp)⟩
  | cons a l ih =>
    obtain ⟨fs, e, hfs⟩ := ih
    obtain ⟨f, hf⟩ := h a
    refine ⟨f :: fs, by simp [e], fun i hi hi' => ?_⟩
    cases i with
    | zero => exact hf
    | succ i => simpa using hfs i (by simpa using hi) (by simpa using hi')
theorem Fulls.cons_inv {s : Sub} {a : T} {l fs : List T} (h : Fulls s (a :: l) fs) : ∃ f fs', fs = f :: fs' ∧ Full s a f ∧ Fulls s l fs' := by
  obtain ⟨e, h⟩ := h
  cases fs with
  | nil => simp at e
  | cons f fs => exact ⟨f, fs, rfl, h 0 (by simp) (by simp), by simpa using e, fun i hi hi' => h (i + 1) (by simpa using hi) (by simpa using hi')⟩
theorem Fulls.append {s : Sub} {l fs l' fs' : List T} (h : Fulls s l fs) (h' : Fulls s l' fs') : Fulls s (l ++ l') (fs ++ fs') := by
  refine ⟨by simp [h.1, h'.1], fun i hi hi' => ?_⟩
  by_cases c : i < l.length
  · rw [List.getElem_append_left c, List.getElem_append_left (by have := h.1; omega)]
    exact h.2 i c _
  · rw [List.getElem_append_right (by omega), List.getElem_append_right (by have := h.1; omega)]
    simp only [← h.1]
    exact h'.2 _ _ _

def LowL (l : List (T × T)) : Prop := ∀ p, p ∈ l → Low p.1 ∧ Low p.2

theorem Pair2.low {s : Sub} (hs : LowS s) {a b x y : T} (h : Pair2 s a b x y) (ha : Low a) (hb : Low b) : Low x ∧ Low y := by
  obtain ⟨x0, y0, h1, h2, h3⟩ := h
  have k1 := h1.low hs ha
  have k2 := h2.low hs hb
  simp only [sw] at h3
  split at h3 <;> simp at h3 <;> obtain ⟨rfl, rfl⟩ := h3
  · exact ⟨k2, k1⟩
  · exact ⟨k1, k2⟩

theorem lowL_zip {as bs : List T} {l : List (T × T)} (h1 : ∀ a, a ∈ as → Low a) (h2 : ∀ b, b ∈ bs → Low b) (h3 : LowL l) : LowL (as.zip bs ++ l) := by
  intro p hp
  rcases List.mem_append.1 hp with hp | hp
  · obtain ⟨p1, p2⟩ := p
    exact ⟨h1 _ (List.of_mem_zip hp).1, h2 _ (List.of_mem_zip hp).2⟩
  · exact h3 p hp
theorem Low.args {t : T} (h : Low t) : ∀ a, a ∈ t.args → Low a := by cases t; exact fun a ha => h.arg ha

theorem Run.exists_ : ∀ (c z : Nat) (s : Sub) (l : List (T × T)) (fs : List T), Fine s → LowL l → cnt s = c → Fulls s (l.map Prod.fst) fs → T.sizeL fs = z → ∃ r, Run s l r := by
  intro c
  induction c using Nat.strongRecOn with
  | ind c ihc =>
  intro z
  induction z using Nat.strongRecOn with
  | ind z ihz =>
  intro s l fs hs hl hc hf hz
  cases l with
  | nil => exact ⟨_, .nil⟩
  | cons p l =>
    obtain ⟨a, b⟩ := p
    have hl' : LowL l := fun p hp => hl p (by simp [hp])
    obtain ⟨la, lb⟩ := hl (a, b) (by simp)
    obtain ⟨x, y, x', y', hp, fx, fy, hx, hxy⟩ := Pair2.exists_ hs.tot a b
    obtain ⟨lx, ly⟩ := hp.low hs.low la lb
    rw [List.map_cons] at hf
    obtain ⟨f, fs', rfl, hfa, hfs⟩ := hf.cons_inv
    simp only [T.sizeL] at hz
    have := T.size_pos f
    by_cases h0 : x.head < 0
    · by_cases he : x.head = y.head
      · obtain ⟨r, hr⟩ := ihz (T.sizeL fs') (by omega) s l fs' hs hl' hc hfs rfl
        exact ⟨r, .same hp h0 he hr⟩
      · by_cases hh : T.has (-1 - x.head) y' = true
        · exact ⟨_, .occurs hp h0 he fy hh⟩
        · have hh' : T.has (-1 - x.head) y' = false := by simpa using hh
          have hs2 := hs.set (hx h0) fy hh' ly
          have hlt : -1 - x.head < 256 := by cases x; exact lx.var h0
          obtain ⟨gs, hgs⟩ := hs2.tot.fulls (l.map Prod.fst)
          obtain ⟨r, hr⟩ := ihc _ (by rw [← hc]; exact cnt_set (t := y) (by omega) hlt (hx h0)) (T.sizeL gs) _ l gs hs2 hl' rfl hgs rfl
          exact ⟨r, .bind hp h0 he fy hh' hr⟩
    · by_cases hn : x.head = y.head ∧ x.args.length = y.args.length
      · obtain ⟨wx, wy⟩ := hp.node_of (by omega)
        have e := hfa.det (wx.full fx)
        subst e
        cases fx with
        | free h1 => simp at h0; omega
        | bound h1 => simp at h0; omega
        | @node h as as' h1 hl1 hh =>
          have k : Fulls s (((T.mk h as).args.zip y.args ++ l).map Prod.fst) (as' ++ fs') := by
            rw [List.map_append, List.map_fst_zip (by simpa using Nat.le_of_eq hn.2)]
            exact Fulls.append ⟨hl1, hh⟩ hfs
          obtain ⟨r, hr⟩ := ihz (T.sizeL (as' ++ fs')) (by rw [T.sizeL_append]; simp only [T.size] at hz; omega) s _ _ hs (lowL_zip lx.args ly.args hl') hc k rfl
          exact ⟨r, .node hp h1 hn.1 hn.2 hr⟩
      · refine ⟨_, .clash hp (by omega) ?_⟩
        by_cases k : x.head = y.head
        · exact .inr fun e => hn ⟨k, e⟩
        · exact .inl k

end Go.Proofs.Ytokhnlhffnidmaa.Elen
