/- A region that draws its order: its operations but the last ones may run in any order: each is shown once, over whatever world has come of the first one by new blocks alone. -/
import Derived.Test.YtokhnlhffnidmaaBase
import Derived.Orders
namespace Go.Proofs.Ytokhnlhffnidmaa
open Go.RowKit

/-- what an operation comes to, of its value and the world alone -/
def upon1 (P : Program) (K : Value → World → Prop) : Result Next → Prop
  | .ok (.value v) w' => K v w'
  | .ok .skip w' => K undef w'
  | .ok (.enter f args) w' => Calls P f args w' fun e w'' => ∃ v, e = .returned v ∧ K v w''
  | _ => False

theorem upon_of_upon1 {P : Program} {o : Oper} {a : Act} {K : Value → World → Prop} {next : Act → World → Prop} {Q : Exit → Act → World → Prop} (hk : ∀ v w, K v w → next (a.put o.dst v) w) {r : Result Next} (h : upon1 P K r) : o.upon P a next Q r := by
  cases r with
  | ok n w' =>
    cases n <;> simp only [upon1] at h <;> try exact h.elim
    · exact hk _ _ h
    · exact hk _ _ h
    · exact h.mono fun e w'' ⟨v, he, hv⟩ => by subst he; exact hk _ _ hv
  | halt x w' => exact h.elim

/-- what stands directly ahead of an operation -/
def deps (o : Oper) : List Nat := (o.after.toList.filter (Region.binds .any)).map (·.on)

def maskOf (o : Oper) (acc : List Nat) : Nat := (deps o).foldl (fun s e => s ||| (2 ^ e ||| acc.getD e 0)) 0
/-- all that stands ahead of each, as bits -/
def masks : List Oper → List Nat → List Nat
  | [], acc => acc
  | o :: l, acc => masks l (acc ++ [maskOf o acc])

theorem testBit_foldl (f : Nat → Nat) (j : Nat) : ∀ (l : List Nat) (s : Nat), (l.foldl (fun s e => s ||| f e) s).testBit j = true → s.testBit j = true ∨ ∃ e, e ∈ l ∧ (f e).testBit j = true := by
  intro l
  induction l with
  | nil => intro s h; exact .inl h
  | cons e l ih =>
    intro s h
    rcases ih _ h with h | ⟨e', he, h⟩
    · rw [Nat.testBit_or, Bool.or_eq_true] at h
      rcases h with h | h
      · exact .inl h
      · exact .inr ⟨e, by simp, h⟩
    · exact .inr ⟨e', by simp [he], h⟩

theorem masks_prefix : ∀ (l : List Oper) (acc : List Nat) (i : Nat), i < acc.length → (masks l acc).getD i 0 = acc.getD i 0 := by
  intro l
  induction l with
  | nil => intro acc i _; rfl
  | cons o l ih =>
    intro acc i hi
    rw [masks, ih _ _ (by simp; omega)]
    simp [List.getElem?_append_left hi]

/-- a set that holds what stands ahead of each of its members -/
def Closed (ops : List Oper) (D : Nat → Bool) : Prop := ∀ i o, ops[i]? = some o → D i = true → ∀ e, e ∈ deps o → D e = true

theorem masks_sound : ∀ (l : List Oper) (acc : List Nat) (ops : List Oper) (D : Nat → Bool), (∀ i, l[i]? = ops[acc.length + i]?) → Closed ops D →
    (∀ i o, i < acc.length → ops[i]? = some o → (∀ e, e ∈ deps o → D e = true) → ∀ j, (acc.getD i 0).testBit j = true → D j = true) →
    (∀ i o, ops[i]? = some o → ∀ e, e ∈ deps o → e < i) →
    ∀ i o, i < acc.length + l.length → ops[i]? = some o → (∀ e, e ∈ deps o → D e = true) → ∀ j, ((masks l acc).getD i 0).testBit j = true → D j = true := by
  intro l
  induction l with
  | nil => intro acc ops D _ _ hacc _ i o hi; simpa [masks] using hacc i o (by simpa using hi)
  | cons o l ih =>
    intro acc ops D hl hD hacc hlt i o' hi
    rw [masks]
    refine ih (acc ++ [maskOf o acc]) ops D (fun k => ?_) hD (fun k q hk hq hd j hj => ?_) hlt i o' (by simp at hi ⊢; omega)
    · have := hl (k + 1)
      simp only [List.getElem?_cons_succ] at this
      rw [this]; congr 1; simp; omega
    · by_cases c : k < acc.length
      · refine hacc k q c hq hd j ?_
        simpa [List.getElem?_append_left c] using hj
      · obtain rfl : k = acc.length := by simp at hk; omega
        have e0 : o = q := by
          have := hl 0
          simp only [List.getElem?_cons_zero, Nat.add_zero] at this
          rw [hq] at this; exact Option.some.inj this
        subst e0
        have hj' : (maskOf o acc).testBit j = true := by simpa using hj
        rcases testBit_foldl (fun e => 2 ^ e ||| acc.getD e 0) j _ _ hj' with h | ⟨e, he, h⟩
        · simp at h
        · rw [Nat.testBit_or, Bool.or_eq_true] at h
          rcases h with h | h
          · rw [Nat.testBit_two_pow] at h
            have : e = j := by simpa using h
            subst this; exact hd _ he
          · have hDe := hd e he
            have hek : e < acc.length := hlt _ _ hq e he
            have hlen : acc.length < ops.length := (List.getElem?_eq_some_iff.1 hq).1
            exact hacc e ops[e] hek (List.getElem?_eq_getElem (by omega)) (fun e' he' => hD e ops[e] (List.getElem?_eq_getElem (by omega)) hDe e' he') j h

/-- the slots that the first m operations write -/
def freeDst (ops : List Oper) (m : Nat) : List Nat := (ops.take m).filterMap (·.dst)

/-- may the first m run in any order, the others behind them, one by one? -/
def mixOK (ops : List Oper) (pre : List Nat) (m n : Nat) : Bool :=
  (ops.zipIdx.all fun (o, i) => (deps o).all (· < i)) &&
  (let M := masks ops []; (List.range ops.length).all fun i => i < m || (List.range i).all fun j => pre.contains j || (M.getD i 0).testBit j) && pre.all (· < m) &&
  decide (m ≤ ops.length) && decide (freeDst ops m).Nodup && (freeDst ops m).all (· < n) &&
  (ops.all fun o => match o.guard with | none => true | some (g, _) => (deps o).contains g) && ((ops.take m).all (·.dst.isSome))

/-- the frame with the first operations' values in their slots -/
def fill : List Oper → (Nat → Value) → Nat → Act → Act
  | [], _, _, a => a
  | o :: l, us, k, a => fill l us (k + 1) (a.put o.dst (us k))

/-- one operation, wherever it runs: what the operands hold; the world is the first one with new blocks -/
def Does (P : Program) (ops : List Oper) (m : Nat) (a0 : Act) (W0 : World) (V : Nat → World → Value → Prop) (i : Nat) (o : Oper) : Prop :=
  ∀ (ρ : Operand → Value) (W : World), Below W0.heap.size W0 W → (∀ v, ρ (.const v) = v) → (∀ g, ρ (.global g) = .pointer (some ⟨g, 0, none⟩)) → (∀ f, ρ (.func f) = .func (.func f) #[] #[]) →
    (∀ t, (freeDst ops m).contains t = false → ρ (.tmp t) = a0.eval (.tmp t)) →
    (∀ e q d, (deps o).contains e = true → ops[e]? = some q → q.dst = some d → V e W (ρ (.tmp d))) →
    upon1 P (fun v W' => Below W.heap.size W W' ∧ V i W' v) ((execOp ρ o).run P W)

/-- the same, under a guard whose answer is known -/
def Goes (P : Program) (ops : List Oper) (m : Nat) (a0 : Act) (W0 : World) (V : Nat → World → Value → Prop) (i : Nat) (o : Oper) : Prop :=
  match o.guard with
  | none => Does P ops m a0 W0 V i o
  | some (g, b) => ∃ b', (∀ W u, V g W u → u = .bool b') ∧ (if b' = b then Does P ops m a0 W0 V i o else ∀ W, V i W undef)


section
variable {P : Program} {l : List Oper} {Q : Exit → Act → World → Prop}

theorem mem_ready {listed : Array Bool} {i : Nat} (h : i ∈ Region.ready .any l.toArray listed) : ∃ o, l[i]? = some o ∧ listed.getD i true = false ∧ ∀ e, e ∈ deps o → listed.getD e false = true := by
  simp only [Region.ready, List.mem_filter, List.mem_range, Bool.and_eq_true, Bool.not_eq_true'] at h
  obtain ⟨hi, h1, h2⟩ := h
  have hi' : i < l.length := by simpa using hi
  refine ⟨l[i], List.getElem?_eq_getElem hi', h1, fun e he => ?_⟩
  have e0 : l.toArray[i]? = some l[i] := by simp [hi']
  rw [e0] at h2
  simp only [Option.map_some, Option.getD_some, Array.all_eq_true, Bool.or_eq_true, Bool.not_eq_true'] at h2
  obtain ⟨x, hx, rfl⟩ := List.mem_map.1 he
  obtain ⟨hx1, hx2⟩ := List.mem_filter.1 hx
  obtain ⟨k, hk, rfl⟩ := List.mem_iff_getElem.1 hx1
  rcases h2 k (by simpa using hk) with h | h
  · have : Region.binds .any (l[i].after)[k] = true := by simpa using hx2
    rw [this] at h; cases h
  · simpa using h

theorem ready_mem {listed : Array Bool} {i : Nat} {o : Oper} (h : l[i]? = some o) (h1 : listed.getD i true = false) (h2 : ∀ e, e ∈ deps o → listed.getD e false = true) : i ∈ Region.ready .any l.toArray listed := by
  have hi : i < l.length := (List.getElem?_eq_some_iff.1 h).1
  simp only [Region.ready, List.mem_filter, List.mem_range, Bool.and_eq_true, Bool.not_eq_true']
  refine ⟨by simpa using hi, h1, ?_⟩
  have e0 : l.toArray[i]? = some o := by simpa using h
  rw [e0]
  simp only [Option.map_some, Option.getD_some, Array.all_eq_true, Bool.or_eq_true, Bool.not_eq_true']
  intro k hk
  by_cases c : Region.binds .any (o.after)[k] = true
  · refine .inr (h2 _ (List.mem_map.2 ⟨(o.after)[k], List.mem_filter.2 ⟨?_, c⟩, rfl⟩))
    exact Array.mem_toList_iff.2 (Array.getElem_mem hk)
  · exact .inl (by simpa using c)

/-- the last operations, one by one -/
theorem mix_tail (hlt : ∀ i o, l[i]? = some o → ∀ e, e ∈ deps o → e < i) (m : Nat) (pre : List Nat) (hpre : ∀ j, j ∈ pre → j < m)
    (hanc : ∀ i, m ≤ i → i < l.length → ∀ j, j < i → j ∈ pre ∨ ((masks l []).getD i 0).testBit j = true) :
    ∀ (fuel k : Nat) (listed : Array Bool) (a : Act) (W : World), m ≤ k → listed.size = l.length → (∀ i, i < l.length → (listed.getD i false = true ↔ i < k)) → l.length - k ≤ fuel →
      wpList P l.toArray Q (l.drop k) a W → wpAny P .any l.toArray Q fuel listed a W := by
  intro fuel
  induction fuel with
  | zero =>
    intro k listed a W hmk hsz hk hf hw
    rw [List.drop_eq_nil_of_le (by omega)] at hw
    refine ⟨?_, hw⟩
    cases hr : Region.ready .any l.toArray listed with
    | nil => rfl
    | cons i r =>
      exfalso
      obtain ⟨o, h1, h2, _⟩ := mem_ready (l := l) (listed := listed) (i := i) (by rw [hr]; simp)
      have hi : i < l.length := (List.getElem?_eq_some_iff.1 h1).1
      have := (hk i hi).2 (by omega)
      rw [Array.getD_eq_getD_getElem?, Array.getElem?_eq_getElem (by omega)] at h2 this
      simp at h2 this
      rw [h2] at this; cases this
  | succ fuel ih =>
    intro k listed a W hmk hsz hk hf hw
    have hget : ∀ i, i < l.length → listed.getD i true = listed.getD i false := fun i hi => by
      rw [Array.getD_eq_getD_getElem?, Array.getD_eq_getD_getElem?, Array.getElem?_eq_getElem (by omega)]; rfl
    have only : ∀ i, i ∈ Region.ready .any l.toArray listed → i = k := by
      intro i hi
      obtain ⟨o, h1, h2, h3⟩ := mem_ready hi
      have hi' : i < l.length := (List.getElem?_eq_some_iff.1 h1).1
      rw [hget i hi'] at h2
      have hge : ¬ i < k := fun c => by rw [(hk i hi').2 c] at h2; cases h2
      by_cases c : i = k
      · exact c
      · exfalso
        have hD : Closed l (fun i => decide (i < k)) := fun q o hq hd e he => by
          have := hlt q o hq e he
          simp at hd ⊢; omega
        have := masks_sound l [] l (fun i => decide (i < k)) (by simp) hD (by simp) hlt i o (by simpa using hi') h1
          (fun e he => by
            have := h3 e he
            have he' := hlt i o h1 e he
            exact decide_eq_true ((hk e (by omega)).1 this)) k ((hanc i (by omega) hi' k (by omega)).resolve_left (fun h => by have := hpre k h; omega))
        simp at this
    refine ⟨fun hr => ?_, fun i hi => ?_⟩
    · by_cases c : k < l.length
      · exfalso
        have : k ∈ Region.ready .any l.toArray listed := ready_mem (List.getElem?_eq_getElem c) (by
            rw [hget k c]
            cases h : listed.getD k false with
            | false => rfl
            | true => have := (hk k c).1 h; omega)
          (fun e he => (hk e (by have := hlt k _ (List.getElem?_eq_getElem c) e he; omega)).2 (hlt k _ (List.getElem?_eq_getElem c) e he))
        rw [hr] at this; cases this
      · rw [List.drop_eq_nil_of_le (by omega)] at hw; exact hw
    · have := only i hi
      subst this
      obtain ⟨o, h1, _, _⟩ := mem_ready hi
      have hi' : i < l.length := (List.getElem?_eq_some_iff.1 h1).1
      have e0 : l.toArray[i]? = some o := by simpa using h1
      rw [List.drop_eq_getElem_cons hi'] at hw
      have eo : l[i] = o := by rw [List.getElem?_eq_getElem hi'] at h1; exact Option.some.inj h1
      rw [eo] at hw
      have next : ∀ a' W', wpList P l.toArray Q (l.drop (i + 1)) a' W' → wpAny P .any l.toArray Q fuel (listed.setIfInBounds i true) a' W' := fun a' W' h =>
        ih (i + 1) _ a' W' (by omega) (by simpa using hsz) (fun j hj => by
          rw [Array.getD_eq_getD_getElem?, Array.getElem?_setIfInBounds]
          by_cases c : i = j
          · subst c; have : i < listed.size := by omega
            simp [this]
          · simp only [c, if_false]
            rw [← Array.getD_eq_getD_getElem?, hk j hj]; omega) (by omega) h
      unfold wpOp
      rw [e0]
      simp only [wpList] at hw
      simp only
      split
      · rename_i c
        rw [if_pos c] at hw
        exact hw.imp (Oper.wp_mono next) id
      · rename_i c
        rw [if_neg c] at hw
        exact next _ _ hw

theorem fill_defers : ∀ (l : List Oper) (us : Nat → Value) (k : Nat) (a : Act), (fill l us k a).defers = a.defers := by
  intro l
  induction l with
  | nil => intro us k a; rfl
  | cons o l ih => intro us k a; rw [fill, ih]; cases o.dst <;> rfl
theorem put_size (a : Act) (d : Option Tmp) (v : Value) : (a.put d v).tmps.size = a.tmps.size := by cases d <;> simp [Act.put]
theorem put_get (a : Act) (d : Tmp) (v : Value) (t : Nat) : (a.put (some d) v).tmps[t]? = if d = t then (if t < a.tmps.size then some v else none) else a.tmps[t]? := by
  simp only [Act.put, Array.getElem?_setIfInBounds]
  by_cases c : d = t
  · subst c; simp
  · simp [c]
theorem fill_size : ∀ (l : List Oper) (us : Nat → Value) (k : Nat) (a : Act), (fill l us k a).tmps.size = a.tmps.size := by
  intro l
  induction l with
  | nil => intro us k a; rfl
  | cons o l ih => intro us k a; rw [fill, ih, put_size]
theorem fill_other : ∀ (l : List Oper) (us : Nat → Value) (k : Nat) (a : Act) (t : Nat), t ∉ l.filterMap (·.dst) → (fill l us k a).tmps[t]? = a.tmps[t]? := by
  intro l
  induction l with
  | nil => intro us k a t _; rfl
  | cons o l ih =>
    intro us k a t ht
    cases hd : o.dst with
    | none =>
      rw [fill, ih _ _ _ _ (by simpa [List.filterMap_cons, hd] using ht), hd]; rfl
    | some d =>
      simp only [List.filterMap_cons, hd, List.mem_cons, not_or] at ht
      rw [fill, ih _ _ _ _ ht.2, hd, put_get, if_neg (fun e => ht.1 e.symm)]
theorem fill_at : ∀ (l : List Oper) (us : Nat → Value) (k : Nat) (a : Act) (i : Nat) (o : Oper) (d : Nat), (l.filterMap (·.dst)).Nodup → l[i]? = some o → o.dst = some d → d < a.tmps.size → (fill l us k a).tmps[d]? = some (us (k + i)) := by
  intro l
  induction l with
  | nil => intro us k a i o d _ h; simp at h
  | cons q l ih =>
    intro us k a i o d hn hi hd hs
    cases i with
    | zero =>
      simp only [List.getElem?_cons_zero, Option.some.injEq] at hi
      subst hi
      simp only [List.filterMap_cons, hd, List.nodup_cons] at hn
      rw [fill, fill_other _ _ _ _ _ hn.1, hd, put_get, if_pos rfl, if_pos hs]; rfl
    | succ i =>
      rw [fill]
      have hn' : (l.filterMap (·.dst)).Nodup := by
        cases hq : q.dst with
        | none => simpa [List.filterMap_cons, hq] using hn
        | some d' => simp only [List.filterMap_cons, hq, List.nodup_cons] at hn; exact hn.2
      rw [ih us (k + 1) _ i o d hn' (by simpa using hi) hd (by rw [put_size]; exact hs)]
      congr 2; omega

theorem yielded_of {ops : List Oper} {a : Act} {g : Nat} {q : Oper} {d : Nat} {b : Bool} (hq : ops[g]? = some q) (hd : q.dst = some d) (hv : a.tmps.getD d undef = .bool b) : yielded ops.toArray a.tmps g = some b := by
  have e0 : ops.toArray[g]? = some q := by simpa using hq
  unfold yielded
  rw [e0]
  simp only [Option.bind_some, hd]
  rw [Array.getD_eq_getD_getElem?] at hv
  cases h : a.tmps[d]? with
  | none => rw [h] at hv; simp [undef] at hv
  | some v => rw [h] at hv; simp only [Option.getD_some] at hv; rw [hv]

theorem wpAny_mix {a a1 : Act} {w w1 : World} (pre : List Nat) (m n : Nat) (V : Nat → World → Value → Prop) (hn : a.tmps.size = n) (hok : mixOK l pre m n = true)
    (hV : ∀ i W W' u, Below W.heap.size W W' → V i W u → V i W' u)
    (hfree : ∀ i o, i < m → l[i]? = some o → i ∈ pre ∨ Goes P l m a w V i o)
    (hfin : ∀ us W, Below w.heap.size w W → (∀ i, i < m → V i W (us i)) → wpList P l.toArray Q (l.drop m) (fill (l.take m) us 0 a) W)
    (fuel0 : Nat) (listed0 : Array Bool) (hsz0 : listed0.size = l.length) (hcl0 : Closed l (fun i => listed0.getD i false)) (hnot0 : ∀ i, m ≤ i → i < l.length → listed0.getD i false = false)
    (hd0 : a1.defers = a.defers) (hs0 : a1.tmps.size = a.tmps.size) (hoth0 : ∀ t, t ∉ freeDst l m → a1.tmps[t]? = a.tmps[t]?)
    (hval0 : ∀ j q d, j < m → listed0.getD j false = true → l[j]? = some q → q.dst = some d → V j w1 (a1.tmps.getD d undef)) (hb0 : Below w.heap.size w w1)
    (hpre0 : ∀ j, j ∈ pre → listed0.getD j false = true) (hf0 : l.length - m + ((List.range m).filter fun i => !listed0.getD i false).length ≤ fuel0) :
    wpAny P .any l.toArray Q fuel0 listed0 a1 w1 := by
  subst hn
  simp only [mixOK, Bool.and_eq_true, decide_eq_true_eq, List.all_eq_true, Bool.or_eq_true] at hok
  obtain ⟨⟨⟨⟨⟨⟨⟨h1, h2⟩, h2'⟩, h3⟩, h4⟩, h5⟩, h6⟩, h7⟩ := hok
  have hpre : ∀ j, j ∈ pre → j < m := fun j hj => by simpa using h2' j hj
  have hlt : ∀ i o, l[i]? = some o → ∀ e, e ∈ deps o → e < i := by
    intro i o hi e he
    have := h1 (o, i) (by rw [List.mem_zipIdx_iff_getElem?]; exact hi) e he
    simpa using this
  have hanc : ∀ i, m ≤ i → i < l.length → ∀ j, j < i → j ∈ pre ∨ ((masks l []).getD i 0).testBit j = true := by
    intro i hmi hi j hj
    rcases h2 i (by simpa using hi) with h | h
    · omega
    · rcases h j (by simpa using hj) with h | h
      · exact .inl (by simpa using h)
      · exact .inr h
  have main : ∀ (u fuel : Nat) (listed : Array Bool) (a' : Act) (W : World), listed.size = l.length → Closed l (fun i => listed.getD i false) → (∀ i, m ≤ i → i < l.length → listed.getD i false = false) →
      a'.defers = a.defers → a'.tmps.size = a.tmps.size → (∀ t, t ∉ freeDst l m → a'.tmps[t]? = a.tmps[t]?) →
      (∀ j q d, j < m → listed.getD j false = true → l[j]? = some q → q.dst = some d → V j W (a'.tmps.getD d undef)) → Below w.heap.size w W → (∀ j, j ∈ pre → listed.getD j false = true) →
      ((List.range m).filter fun i => !listed.getD i false).length ≤ u → l.length - m + u ≤ fuel → wpAny P .any l.toArray Q fuel listed a' W := by
    intro u
    induction u with
    | zero =>
      intro fuel listed a' W hsz hcl hnot hd hs hoth hval hb hp hcnt hf
      have all : ∀ i, i < m → listed.getD i false = true := by
        intro i hi
        have hnil := List.eq_nil_of_length_eq_zero (Nat.le_zero.1 hcnt)
        have := (List.filter_eq_nil_iff.1 hnil) i (by simpa using hi)
        simpa using this
      refine mix_tail hlt m pre hpre hanc fuel m listed a' W (Nat.le_refl _) hsz (fun i hi => ⟨fun h => ?_, fun h => all i h⟩) (by omega) ?_
      · by_cases c : i < m
        · exact c
        · rw [hnot i (by omega) hi] at h; cases h
      · have ea : a' = fill (l.take m) (fun j => a'.tmps.getD (((l[j]?).bind (·.dst)).getD 0) undef) 0 a := by
          have et : a'.tmps = (fill (l.take m) (fun j => a'.tmps.getD (((l[j]?).bind (·.dst)).getD 0) undef) 0 a).tmps := by
            apply Array.ext_getElem?
            intro t
            by_cases c : t ∈ freeDst l m
            · obtain ⟨q, hq, hqd⟩ := List.mem_filterMap.1 c
              obtain ⟨j, hj, hjq⟩ := List.mem_iff_getElem.1 hq
              have hj' : (l.take m)[j]? = some q := by rw [List.getElem?_eq_getElem hj, hjq]
              have ht : t < a.tmps.size := by simpa using h5 t c
              rw [fill_at (l.take m) _ 0 a j q t h4 hj' hqd ht]
              have hjm : j < m := by simp at hj; omega
              have hlj : l[j]? = some q := by rw [List.getElem?_take_of_lt hjm] at hj'; exact hj'
              simp only [Nat.zero_add, hlj, Option.bind_some, hqd, Option.getD_some]
              rw [Array.getD_eq_getD_getElem?, Array.getElem?_eq_getElem (by omega)]; rfl
            · rw [fill_other (l.take m) _ 0 a t c]; exact hoth t c
          have ed := fill_defers (l.take m) (fun j => a'.tmps.getD (((l[j]?).bind (·.dst)).getD 0) undef) 0 a
          cases a' with
          | mk t d =>
            cases hfl : fill (l.take m) (fun j => (Act.mk t d).tmps.getD (((l[j]?).bind (·.dst)).getD 0) undef) 0 a with
            | mk t' d' =>
              rw [hfl] at et ed
              simp only at et ed hd
              rw [et, ed, ← hd]
        rw [ea]
        refine hfin _ W hb fun i hi => ?_
        have hil : i < l.length := by omega
        have hdst := h7 l[i] (List.mem_iff_getElem.2 ⟨i, by simp; omega, by simp⟩)
        obtain ⟨d, hd'⟩ := Option.isSome_iff_exists.1 hdst
        have e1 : l[i]? = some l[i] := List.getElem?_eq_getElem hil
        simp only [e1, Option.bind_some, hd', Option.getD_some]
        exact hval i l[i] d hi (all i hi) e1 hd'
    | succ u ih =>
      intro fuel listed a' W hsz hcl hnot hd hs hoth hval hb hp hcnt hf
      by_cases hc : ((List.range m).filter fun i => !listed.getD i false).length ≤ u
      · exact ih fuel listed a' W hsz hcl hnot hd hs hoth hval hb hp hc (by omega)
      cases fuel with
      | zero => omega
      | succ fuel =>
        have hget : ∀ i, i < l.length → listed.getD i true = listed.getD i false := fun i hi => by
          rw [Array.getD_eq_getD_getElem?, Array.getD_eq_getD_getElem?, Array.getElem?_eq_getElem (by omega)]; rfl
        -- one of the first is not yet listed; the least such is ready
        obtain ⟨x, hxm, hx⟩ : ∃ x, x < m ∧ listed.getD x false = false := by
          cases hfl : (List.range m).filter fun i => !listed.getD i false with
          | nil => rw [hfl] at hc; simp at hc
          | cons x r =>
            have : x ∈ (List.range m).filter fun i => !listed.getD i false := by rw [hfl]; simp
            simp only [List.mem_filter, List.mem_range, Bool.not_eq_true'] at this
            exact ⟨x, this⟩
        have least : ∀ k, (∃ x, x < k ∧ x < m ∧ listed.getD x false = false) → ∃ x, x < m ∧ listed.getD x false = false ∧ ∀ y, y < x → listed.getD y false = true := by
          intro k
          induction k with
          | zero => rintro ⟨x, h, _⟩; omega
          | succ k ihk =>
            rintro ⟨x, h, hm', hx'⟩
            by_cases c : ∃ x, x < k ∧ x < m ∧ listed.getD x false = false
            · exact ihk c
            · refine ⟨x, hm', hx', fun y hy => ?_⟩
              cases hy' : listed.getD y false with
              | true => rfl
              | false => exact absurd ⟨y, by omega, by omega, hy'⟩ c
        obtain ⟨z, hzm, hz, hzall⟩ := least (x + 1) ⟨x, by omega, hxm, hx⟩
        have hzl : z < l.length := by omega
        refine ⟨fun hr => ?_, fun i hi => ?_⟩
        · exfalso
          have : z ∈ Region.ready .any l.toArray listed := ready_mem (List.getElem?_eq_getElem hzl) (by rw [hget z hzl]; exact hz) (fun e he => hzall e (hlt z _ (List.getElem?_eq_getElem hzl) e he))
          rw [hr] at this; cases this
        · obtain ⟨o, ho, hi1, hi2⟩ := mem_ready hi
          have hil : i < l.length := (List.getElem?_eq_some_iff.1 ho).1
          rw [hget i hil] at hi1
          have him : i < m := by
            by_cases c : i < m
            · exact c
            · exfalso
              have := masks_sound l [] l _ (by simp) hcl (by simp) hlt i o (by simpa using hil) ho hi2 x ((hanc i (by omega) hil x (by omega)).resolve_left (fun h => by rw [hp x h] at hx; cases hx))
              rw [hx] at this; cases this
          have e0 : l.toArray[i]? = some o := by simpa using ho
          have hdst := h7 o (List.mem_iff_getElem.2 ⟨i, by simp; omega, by rw [List.getElem?_eq_getElem hil] at ho; simpa using ho⟩)
          obtain ⟨d, hod⟩ := Option.isSome_iff_exists.1 hdst
          have hdin : d ∈ freeDst l m := List.mem_filterMap.2 ⟨o, List.mem_iff_getElem.2 ⟨i, by simp; omega, by rw [List.getElem?_eq_getElem hil] at ho; simpa using ho⟩, hod⟩
          have hdsz : d < a.tmps.size := by simpa using h5 d hdin
          have hset : ∀ j, (listed.setIfInBounds i true).getD j false = if i = j then true else listed.getD j false := by
            intro j
            rw [Array.getD_eq_getD_getElem?, Array.getElem?_setIfInBounds]
            by_cases c : i = j
            · subst c; have : i < listed.size := by omega
              simp [this]
            · simp only [c, if_false]; rw [← Array.getD_eq_getD_getElem?]
          -- what follows, once the slot holds a fit value
          have next : ∀ v W', Below W.heap.size W W' → V i W' v → wpAny P .any l.toArray Q fuel (listed.setIfInBounds i true) (a'.put o.dst v) W' := by
            intro v W' hb' hv
            refine ih fuel _ _ W' (by simpa using hsz) (fun k q hk hDk e he => ?_) (fun k hk1 hk2 => ?_) ?_ (by rw [put_size]; exact hs) (fun t ht => ?_) (fun j q d' hj hlj hq hqd => ?_) (hb.trans (hb'.mono hb.size)) (fun j hj => by rw [hset]; split; rfl; exact hp j hj) ?_ (by omega)
            · replace hDk : (listed.setIfInBounds i true).getD k false = true := hDk
              show (listed.setIfInBounds i true).getD e false = true
              rw [hset] at hDk ⊢
              split
              · rfl
              · rename_i c
                by_cases ck : i = k
                · subst ck
                  rw [ho] at hk; cases hk
                  exact hi2 e he
                · rw [if_neg ck] at hDk
                  exact hcl k q hk hDk e he
            · rw [hset, if_neg (by omega)]; exact hnot k hk1 hk2
            · rw [hod]; simpa [Act.put] using hd
            · rw [hod, put_get, if_neg (by rintro rfl; exact ht hdin)]; exact hoth t ht
            · rw [hset] at hlj
              by_cases cj : i = j
              · subst cj
                rw [ho] at hq; cases hq
                rw [hod] at hqd; cases hqd
                rw [hod, Array.getD_eq_getD_getElem?, put_get, if_pos rfl, if_pos (by rw [hs]; exact hdsz)]
                exact hv
              · rw [if_neg cj] at hlj
                have hne : d ≠ d' := by
                  rintro rfl
                  have n1 : (l.take m)[i]? = some o := by rw [List.getElem?_take_of_lt him]; exact ho
                  have n2 : (l.take m)[j]? = some q := by rw [List.getElem?_take_of_lt hj]; exact hq
                  have hp := (List.nodup_iff_pairwise_ne.1 h4)
                  unfold freeDst at hp
                  rw [List.pairwise_filterMap] at hp
                  rcases Nat.lt_or_ge i j with c | c
                  · have := List.pairwise_iff_getElem.1 hp i j (by simp; omega) (by simp; have := (List.getElem?_eq_some_iff.1 hq).1; omega) c
                    have a1 : (l.take m)[i]'(by simp; omega) = o := by have := List.getElem?_eq_some_iff.1 n1; exact this.2
                    have a2 : (l.take m)[j]'(by simp; have := (List.getElem?_eq_some_iff.1 hq).1; omega) = q := by have := List.getElem?_eq_some_iff.1 n2; exact this.2
                    rw [a1, a2] at this
                    exact this d hod d hqd rfl
                  · have := List.pairwise_iff_getElem.1 hp j i (by simp; have := (List.getElem?_eq_some_iff.1 hq).1; omega) (by simp; omega) (by omega)
                    have a1 : (l.take m)[i]'(by simp; omega) = o := by have := List.getElem?_eq_some_iff.1 n1; exact this.2
                    have a2 : (l.take m)[j]'(by simp; have := (List.getElem?_eq_some_iff.1 hq).1; omega) = q := by have := List.getElem?_eq_some_iff.1 n2; exact this.2
                    rw [a1, a2] at this
                    exact this d hqd d hod rfl
                have := hval j q d' hj hlj hq hqd
                rw [hod, Array.getD_eq_getD_getElem?, put_get, if_neg hne, ← Array.getD_eq_getD_getElem?]
                exact hV j W W' _ hb' this
            · have := Elen.filter_lt (fun k => !listed.getD k false) (fun k => !(listed.setIfInBounds i true).getD k false) (List.range m) (fun k hk => by
                  simp only [hset] at hk
                  by_cases c : i = k
                  · rw [if_pos c] at hk; cases hk
                  · rw [if_neg c] at hk; exact hk) (a := i) (by simpa using him) (by simpa using hi1) (by simp only [hset]; simp)
              omega
          have does : Does P l m a w V i o → o.wp P a' W (wpAny P .any l.toArray Q fuel (listed.setIfInBounds i true)) Q := by
            intro hdo
            refine upon_of_upon1 (K := fun v W' => Below W.heap.size W W' ∧ V i W' v) (fun v W' ⟨hb', hv⟩ => next v W' hb' hv) ?_
            refine hdo a'.eval W hb (fun _ => rfl) (fun _ => rfl) (fun _ => rfl) (fun t ht => ?_) (fun e q d' he hq hqd => ?_)
            · replace ht : t ∉ freeDst l m := by simpa using ht
              simp only [Act.eval, Array.getD_eq_getD_getElem?]; rw [hoth t ht]
            · replace he : e ∈ deps o := by simpa using he
              exact hval e q d' (by have := hlt i o ho e he; omega) (hi2 e he) hq hqd
          have hg := (hfree i o him ho).resolve_left (fun h => by rw [hp i h] at hi1; cases hi1)
          unfold wpOp
          rw [e0]
          simp only
          unfold Goes at hg
          cases hgd : o.guard with
          | none =>
            rw [hgd] at hg
            rw [if_pos (by simp [Region.wanted, hgd])]
            exact .inl (does hg)
          | some gb =>
            obtain ⟨g, b⟩ := gb
            rw [hgd] at hg
            obtain ⟨b', hb', hg⟩ := hg
            have hgdep : g ∈ deps o := by
              have := h6 o (List.mem_iff_getElem.2 ⟨i, hil, by rw [List.getElem?_eq_getElem hil] at ho; exact Option.some.inj ho⟩)
              rw [hgd] at this; simpa using this
            have hglt : g < i := hlt i o ho g hgdep
            have hgl : l[g]? = some l[g] := List.getElem?_eq_getElem (by omega)
            have hgdst := h7 l[g] (List.mem_iff_getElem.2 ⟨g, by simp; omega, by simp⟩)
            obtain ⟨dg, hdg⟩ := Option.isSome_iff_exists.1 hgdst
            have hval' := hb' W _ (hval g l[g] dg (by omega) (hi2 g hgdep) hgl hdg)
            have hy := yielded_of (ops := l) (a := a') hgl hdg hval'
            by_cases c : b' = b
            · rw [if_pos c] at hg
              rw [if_pos (by simp [Region.wanted, hgd, hy, c])]
              exact .inl (does hg)
            · rw [if_neg c] at hg
              rw [if_neg (by simp [Region.wanted, hgd, hy, c])]
              exact next undef W (Below.refl _ _) (hg W)
  exact main _ fuel0 listed0 a1 w1 hsz0 hcl0 hnot0 hd0 hs0 hoth0 hval0 hb0 hpre0 (Nat.le_refl _) hf0

/-- the first operations, one by one -/
def GoesL (P : Program) (ops : List Oper) (m : Nat) (a0 : Act) (W0 : World) (V : Nat → World → Value → Prop) : List Oper → Nat → Prop
  | [], _ => True
  | o :: r, k => Goes P ops m a0 W0 V k o ∧ GoesL P ops m a0 W0 V r (k + 1)
theorem GoesL.get {ops : List Oper} {m : Nat} {a0 : Act} {W0 : World} {V : Nat → World → Value → Prop} : ∀ (r : List Oper) (k : Nat), GoesL P ops m a0 W0 V r k → ∀ i o, r[i]? = some o → Goes P ops m a0 W0 V (k + i) o := by
  intro r
  induction r with
  | nil => intro k _ i o h; simp at h
  | cons q r ih =>
    intro k h i o hi
    cases i with
    | zero => simp at hi; subst hi; exact h.1
    | succ i =>
      have := ih (k + 1) h.2 i o (by simpa using hi)
      rw [show k + (i + 1) = k + 1 + i from by omega]; exact this
theorem goes_nil {ops : List Oper} {m : Nat} {a0 : Act} {W0 : World} {V : Nat → World → Value → Prop} {k : Nat} : GoesL P ops m a0 W0 V [] k := trivial
theorem goes_cons {ops : List Oper} {m : Nat} {a0 : Act} {W0 : World} {V : Nat → World → Value → Prop} {k : Nat} {o : Oper} {r : List Oper} (hg : o.guard = none) (h : Does P ops m a0 W0 V k o) (h' : GoesL P ops m a0 W0 V r (k + 1)) : GoesL P ops m a0 W0 V (o :: r) k :=
  ⟨by unfold Goes; rw [hg]; exact h, h'⟩
theorem goes_yes {ops : List Oper} {m : Nat} {a0 : Act} {W0 : World} {V : Nat → World → Value → Prop} {k : Nat} {o : Oper} {r : List Oper} {g : Nat} {b : Bool} (hg : o.guard = some (g, b)) (hv : ∀ W u, V g W u → u = .bool b) (h : Does P ops m a0 W0 V k o) (h' : GoesL P ops m a0 W0 V r (k + 1)) : GoesL P ops m a0 W0 V (o :: r) k :=
  ⟨by unfold Goes; rw [hg]; exact ⟨b, hv, by rw [if_pos rfl]; exact h⟩, h'⟩
theorem goes_no {ops : List Oper} {m : Nat} {a0 : Act} {W0 : World} {V : Nat → World → Value → Prop} {k : Nat} {o : Oper} {r : List Oper} {g : Nat} {b : Bool} (hg : o.guard = some (g, b)) (hv : ∀ W u, V g W u → u = .bool (!b)) (h : ∀ W, V k W undef) (h' : GoesL P ops m a0 W0 V r (k + 1)) : GoesL P ops m a0 W0 V (o :: r) k :=
  ⟨by unfold Goes; rw [hg]; exact ⟨!b, hv, by rw [if_neg (by cases b <;> decide)]; exact h⟩, h'⟩

theorem wp_mix {id : Nat} {a : Act} {w : World} (m n : Nat) (V : Nat → World → Value → Prop) (hm : P.follows .mixedOrders = true) (hn : a.tmps.size = n) (hok : mixOK l [] m n = true)
    (hV : ∀ i W W' u, Below W.heap.size W W' → V i W u → V i W' u)
    (hfree : GoesL P l m a w V (l.take m) 0)
    (hfin : ∀ us W, Below w.heap.size w W → (∀ i, i < m → V i W (us i)) → wpList P l.toArray Q (l.drop m) (fill (l.take m) us 0 a) W) :
    (Code.region id l.toArray true).wp P Q a w := by
  refine wp_region_any hm (wpAny_mix [] m n V hn hok hV (fun i o him ho => .inr ?_) hfin _ _ (by simp) (fun i o _ h => ?_) (fun i _ _ => ?_) rfl rfl (fun _ _ => rfl) (fun j q d _ h => ?_) (Below.refl _ _).drew (fun j hj => by cases hj) ?_)
  · have := hfree.get _ _ i o (by rw [List.getElem?_take_of_lt him]; exact ho)
    simpa using this
  · exfalso
    replace h : (Array.replicate l.toArray.size false).getD i false = true := h
    rw [Array.getD_eq_getD_getElem?, Array.getElem?_replicate] at h; split at h <;> simp at h
  · rw [Array.getD_eq_getD_getElem?, Array.getElem?_replicate]; split <;> rfl
  · exfalso; rw [Array.getD_eq_getD_getElem?, Array.getElem?_replicate] at h; split at h <;> simp at h
  · have hml : m ≤ l.length := by
      simp only [mixOK, Bool.and_eq_true, decide_eq_true_eq] at hok
      exact hok.1.1.1.1.2
    have := List.length_filter_le (fun i => !(Array.replicate l.toArray.size false).getD i false) (List.range m)
    simp only [List.length_range] at this
    simp only [List.size_toArray] at *
    omega

end
end Go.Proofs.Ytokhnlhffnidmaa
