/- A region that draws its order and stores among the operations whose order is open: what holds of the world is said of the operations that have been. -/
import Derived.Test.YtokhnlhffnidmaaRng
namespace Go.Proofs.Ytokhnlhffnidmaa
open Go.RowKit

def mixOK2 (ops : List Oper) (m n : Nat) : Bool :=
  (ops.zipIdx.all fun (o, i) => (deps o).all (· < i)) &&
  (let M := masks ops []; (List.range ops.length).all fun i => i < m || (List.range i).all fun j => (M.getD i 0).testBit j) &&
  decide (m ≤ ops.length) && decide (freeDst ops m).Nodup && (freeDst ops m).all (· < n) &&
  ((ops.take m).all fun o => o.guard.isNone)

/-- one operation, wherever it runs: D: those that have been -/
def DoesI (P : Program) (ops : List Oper) (m : Nat) (a0 : Act) (V : Nat → Value → Prop) (Inv : (Nat → Bool) → World → Prop) (i : Nat) (o : Oper) : Prop :=
  ∀ (ρ : Operand → Value) (W : World) (D : Nat → Bool), Inv D W → Closed ops D → D i = false → (∀ e, e ∈ deps o → D e = true) → (∀ v, ρ (.const v) = v) → (∀ g, ρ (.global g) = .pointer (some ⟨g, 0, none⟩)) → (∀ f, ρ (.func f) = .func (.func f) #[] #[]) →
    (∀ t, (freeDst ops m).contains t = false → ρ (.tmp t) = a0.eval (.tmp t)) →
    (∀ e q d, (deps o).contains e = true → ops[e]? = some q → q.dst = some d → V e (ρ (.tmp d))) →
    upon1 P (fun v W' => Inv (fun k => k == i || D k) W' ∧ V i v) ((execOp ρ o).run P W)
section
variable {P : Program} {l : List Oper} {Q : Exit → Act → World → Prop}

theorem wpAny_inv {a : Act} {w : World} (m n : Nat) (V : Nat → Value → Prop) (Inv : (Nat → Bool) → World → Prop) (hn : a.tmps.size = n) (hok : mixOK2 l m n = true)
    (hfree : ∀ i o, i < m → l[i]? = some o → DoesI P l m a V Inv i o) (h0 : Inv (fun _ => false) w.drew)
    (hfin : ∀ us W, Inv (fun i => decide (i < m)) W → (∀ i o, i < m → l[i]? = some o → o.dst.isSome = true → V i (us i)) → wpList P l.toArray Q (l.drop m) (fill (l.take m) us 0 a) W) :
    wpAny P .any l.toArray Q l.toArray.size (Array.replicate l.toArray.size false) a { w with drawn := w.drawn + 1 } := by
  subst hn
  simp only [mixOK2, Bool.and_eq_true, decide_eq_true_eq, List.all_eq_true, Bool.or_eq_true] at hok
  obtain ⟨⟨⟨⟨⟨h1, h2⟩, h3⟩, h4⟩, h5⟩, h6⟩ := hok
  have hlt : ∀ i o, l[i]? = some o → ∀ e, e ∈ deps o → e < i := by
    intro i o hi e he
    have := h1 (o, i) (by rw [List.mem_zipIdx_iff_getElem?]; exact hi) e he
    simpa using this
  have hanc : ∀ i, m ≤ i → i < l.length → ∀ j, j < i → ((masks l []).getD i 0).testBit j = true := by
    intro i hmi hi j hj
    rcases h2 i (by simpa using hi) with h | h
    · omega
    · exact h j (by simpa using hj)
  have main : ∀ (u fuel : Nat) (listed : Array Bool) (a' : Act) (W : World), listed.size = l.length → Closed l (fun i => listed.getD i false) → (∀ i, m ≤ i → i < l.length → listed.getD i false = false) →
      a'.defers = a.defers → a'.tmps.size = a.tmps.size → (∀ t, t ∉ freeDst l m → a'.tmps[t]? = a.tmps[t]?) →
      (∀ j q d, j < m → listed.getD j false = true → l[j]? = some q → q.dst = some d → V j (a'.tmps.getD d undef)) → Inv (fun i => listed.getD i false) W →
      ((List.range m).filter fun i => !listed.getD i false).length ≤ u → l.length - m + u ≤ fuel → wpAny P .any l.toArray Q fuel listed a' W := by
    intro u
    induction u with
    | zero =>
      intro fuel listed a' W hsz hcl hnot hd hs hoth hval hb hcnt hf
      have all : ∀ i, i < m → listed.getD i false = true := by
        intro i hi
        have hnil := List.eq_nil_of_length_eq_zero (Nat.le_zero.1 hcnt)
        have := (List.filter_eq_nil_iff.1 hnil) i (by simpa using hi)
        simpa using this
      refine mix_tail hlt m [] (fun j h => by cases h) (fun i h1 h2 j h3 => .inr (hanc i h1 h2 j h3)) fuel m listed a' W (Nat.le_refl _) hsz (fun i hi => ⟨fun h => ?_, fun h => all i h⟩) (by omega) ?_
      · by_cases c : i < m
        · exact c
        · rw [hnot i (by omega) hi] at h; cases h
      · have ea : a' = fill (l.take m) (fun j => a'.tmps.getD (((l[j]?).bind (·.dst)).getD 0) undef) 0 a := by
          have et : a'.tmps = (fill (l.take m) (fun j => a'.tmps.getD (((l[j]?).bind (·.dst)).getD 0) undef) 0 a).tmps := by
            apply Array.ext_getElem?
            intro t
            by_cases c : t ∈ freeDst l m
            · obtain ⟨q, hq, hqd⟩ := List.mem_filterMap.1 c
              obtain ⟨j, hj, hjq⟩ := List.mem_iff_getElem.1 hq
              have hj' : (l.take m)[j]? = some q := by rw [List.getElem?_eq_getElem hj, hjq]
              have ht : t < a.tmps.size := by simpa using h5 t c
              rw [fill_at (l.take m) _ 0 a j q t h4 hj' hqd ht]
              have hjm : j < m := by simp at hj; omega
              have hlj : l[j]? = some q := by rw [List.getElem?_take_of_lt hjm] at hj'; exact hj'
              simp only [Nat.zero_add, hlj, Option.bind_some, hqd, Option.getD_some]
              rw [Array.getD_eq_getD_getElem?, Array.getElem?_eq_getElem (by omega)]; rfl
            · rw [fill_other (l.take m) _ 0 a t c]; exact hoth t c
          have ed := fill_defers (l.take m) (fun j => a'.tmps.getD (((l[j]?).bind (·.dst)).getD 0) undef) 0 a
          cases a' with
          | mk t d =>
            cases hfl : fill (l.take m) (fun j => (Act.mk t d).tmps.getD (((l[j]?).bind (·.dst)).getD 0) undef) 0 a with
            | mk t' d' =>
              rw [hfl] at et ed
              simp only at et ed hd
              rw [et, ed, ← hd]
        rw [ea]
        have hD : (fun i => listed.getD i false) = fun i => decide (i < m) := by
          funext i
          by_cases c : i < m
          · rw [all i c]; simp [c]
          · by_cases c2 : i < l.length
            · rw [hnot i (by omega) c2]; simp [c]
            · rw [Array.getD_eq_getD_getElem?, Array.getElem?_eq_none (by omega)]; simp [c]
        rw [hD] at hb
        refine hfin _ W hb fun i o hi ho hdst => ?_
        obtain ⟨d, hd'⟩ := Option.isSome_iff_exists.1 hdst
        simp only [ho, Option.bind_some, hd', Option.getD_some]
        exact hval i o d hi (all i hi) ho hd'
    | succ u ih =>
      intro fuel listed a' W hsz hcl hnot hd hs hoth hval hb hcnt hf
      by_cases hc : ((List.range m).filter fun i => !listed.getD i false).length ≤ u
      · exact ih fuel listed a' W hsz hcl hnot hd hs hoth hval hb hc (by omega)
      cases fuel with
      | zero => omega
      | succ fuel =>
        have hget : ∀ i, i < l.length → listed.getD i true = listed.getD i false := fun i hi => by
          rw [Array.getD_eq_getD_getElem?, Array.getD_eq_getD_getElem?, Array.getElem?_eq_getElem (by omega)]; rfl
        -- one of the first is not yet listed; the least such is ready
        obtain ⟨x, hxm, hx⟩ : ∃ x, x < m ∧ listed.getD x false = false := by
          cases hfl : (List.range m).filter fun i => !listed.getD i false with
          | nil => rw [hfl] at hc; simp at hc
          | cons x r =>
            have : x ∈ (List.range m).filter fun i => !listed.getD i false := by rw [hfl]; simp
            simp only [List.mem_filter, List.mem_range, Bool.not_eq_true'] at this
            exact ⟨x, this⟩
        have least : ∀ k, (∃ x, x < k ∧ x < m ∧ listed.getD x false = false) → ∃ x, x < m ∧ listed.getD x false = false ∧ ∀ y, y < x → listed.getD y false = true := by
          intro k
          induction k with
          | zero => rintro ⟨x, h, _⟩; omega
          | succ k ihk =>
            rintro ⟨x, h, hm', hx'⟩
            by_cases c : ∃ x, x < k ∧ x < m ∧ listed.getD x false = false
            · exact ihk c
            · refine ⟨x, hm', hx', fun y hy => ?_⟩
              cases hy' : listed.getD y false with
              | true => rfl
              | false => exact absurd ⟨y, by omega, by omega, hy'⟩ c
        obtain ⟨z, hzm, hz, hzall⟩ := least (x + 1) ⟨x, by omega, hxm, hx⟩
        have hzl : z < l.length := by omega
        refine ⟨fun hr => ?_, fun i hi => ?_⟩
        · exfalso
          have : z ∈ Region.ready .any l.toArray listed := ready_mem (List.getElem?_eq_getElem hzl) (by rw [hget z hzl]; exact hz) (fun e he => hzall e (hlt z _ (List.getElem?_eq_getElem hzl) e he))
          rw [hr] at this; cases this
        · obtain ⟨o, ho, hi1, hi2⟩ := mem_ready hi
          have hil : i < l.length := (List.getElem?_eq_some_iff.1 ho).1
          rw [hget i hil] at hi1
          have him : i < m := by
            by_cases c : i < m
            · exact c
            · exfalso
              have := masks_sound l [] l _ (by simp) hcl (by simp) hlt i o (by simpa using hil) ho hi2 x (hanc i (by omega) hil x (by omega))
              rw [hx] at this; cases this
          have e0 : l.toArray[i]? = some o := by simpa using ho
          have hset : ∀ j, (listed.setIfInBounds i true).getD j false = if i = j then true else listed.getD j false := by
            intro j
            rw [Array.getD_eq_getD_getElem?, Array.getElem?_setIfInBounds]
            by_cases c : i = j
            · subst c; have : i < listed.size := by omega
              simp [this]
            · simp only [c, if_false]; rw [← Array.getD_eq_getD_getElem?]
          have hD : (fun k => (listed.setIfInBounds i true).getD k false) = fun k => k == i || listed.getD k false := by
            funext k
            rw [hset]
            by_cases c : i = k
            · simp [c]
            · rw [if_neg c]; have : (k == i) = false := by simpa using fun h => c h.symm
              rw [this]; rfl
          -- what follows, once the slot holds a fit value
          have next : ∀ v W', Inv (fun k => k == i || listed.getD k false) W' → V i v → wpAny P .any l.toArray Q fuel (listed.setIfInBounds i true) (a'.put o.dst v) W' := by
            intro v W' hb' hv
            rw [← hD] at hb'
            refine ih fuel _ _ W' (by simpa using hsz) (fun k q hk hDk e he => ?_) (fun k hk1 hk2 => ?_) ?_ (by rw [put_size]; exact hs) (fun t ht => ?_) (fun j q d' hj hlj hq hqd => ?_) hb' ?_ (by omega)
            · replace hDk : (listed.setIfInBounds i true).getD k false = true := hDk
              show (listed.setIfInBounds i true).getD e false = true
              rw [hset] at hDk ⊢
              split
              · rfl
              · rename_i c
                by_cases ck : i = k
                · subst ck
                  rw [ho] at hk; cases hk
                  exact hi2 e he
                · rw [if_neg ck] at hDk
                  exact hcl k q hk hDk e he
            · rw [hset, if_neg (by omega)]; exact hnot k hk1 hk2
            · cases hod : o.dst <;> simpa [Act.put] using hd
            · cases hod : o.dst with
              | none => exact hoth t ht
              | some d =>
                have hdin : d ∈ freeDst l m := List.mem_filterMap.2 ⟨o, List.mem_iff_getElem.2 ⟨i, by simp; omega, by rw [List.getElem?_eq_getElem hil] at ho; simpa using ho⟩, hod⟩
                rw [put_get, if_neg (by rintro rfl; exact ht hdin)]; exact hoth t ht
            · rw [hset] at hlj
              by_cases cj : i = j
              · subst cj
                rw [ho] at hq; cases hq
                have hdin : d' ∈ freeDst l m := List.mem_filterMap.2 ⟨o, List.mem_iff_getElem.2 ⟨i, by simp; omega, by rw [List.getElem?_eq_getElem hil] at ho; simpa using ho⟩, hqd⟩
                have hdsz : d' < a.tmps.size := by simpa using h5 d' hdin
                rw [hqd, Array.getD_eq_getD_getElem?, put_get, if_pos rfl, if_pos (by rw [hs]; exact hdsz)]
                exact hv
              · rw [if_neg cj] at hlj
                have := hval j q d' hj hlj hq hqd
                cases hod : o.dst with
                | none => exact this
                | some d =>
                  have hne : d ≠ d' := by
                    rintro rfl
                    have n1 : (l.take m)[i]? = some o := by rw [List.getElem?_take_of_lt him]; exact ho
                    have n2 : (l.take m)[j]? = some q := by rw [List.getElem?_take_of_lt hj]; exact hq
                    have hp := (List.nodup_iff_pairwise_ne.1 h4)
                    unfold freeDst at hp
                    rw [List.pairwise_filterMap] at hp
                    rcases Nat.lt_or_ge i j with c | c
                    · have := List.pairwise_iff_getElem.1 hp i j (by simp; omega) (by simp; have := (List.getElem?_eq_some_iff.1 hq).1; omega) c
                      have a1 : (l.take m)[i]'(by simp; omega) = o := by have := List.getElem?_eq_some_iff.1 n1; exact this.2
                      have a2 : (l.take m)[j]'(by simp; have := (List.getElem?_eq_some_iff.1 hq).1; omega) = q := by have := List.getElem?_eq_some_iff.1 n2; exact this.2
                      rw [a1, a2] at this
                      exact this d hod d hqd rfl
                    · have := List.pairwise_iff_getElem.1 hp j i (by simp; have := (List.getElem?_eq_some_iff.1 hq).1; omega) (by simp; omega) (by omega)
                      have a1 : (l.take m)[i]'(by simp; omega) = o := by have := List.getElem?_eq_some_iff.1 n1; exact this.2
                      have a2 : (l.take m)[j]'(by simp; have := (List.getElem?_eq_some_iff.1 hq).1; omega) = q := by have := List.getElem?_eq_some_iff.1 n2; exact this.2
                      rw [a1, a2] at this
                      exact this d hqd d hod rfl
                  rw [Array.getD_eq_getD_getElem?, put_get, if_neg hne, ← Array.getD_eq_getD_getElem?]
                  exact this
            · have := Elen.filter_lt (fun k => !listed.getD k false) (fun k => !(listed.setIfInBounds i true).getD k false) (List.range m) (fun k hk => by
                  simp only [hset] at hk
                  by_cases c : i = k
                  · rw [if_pos c] at hk; cases hk
                  · rw [if_neg c] at hk; exact hk) (a := i) (by simpa using him) (by simpa using hi1) (by simp only [hset]; simp)
              omega
          unfold wpOp
          rw [e0]
          simp only
          have hgd : o.guard = none := by simpa using h6 o (List.mem_iff_getElem.2 ⟨i, by simp; omega, by rw [List.getElem?_eq_getElem hil] at ho; simpa using ho⟩)
          rw [if_pos (by simp [Region.wanted, hgd])]
          refine .inl (upon_of_upon1 (K := fun v W' => Inv (fun k => k == i || listed.getD k false) W' ∧ V i v) (fun v W' ⟨hb', hv⟩ => next v W' hb' hv) ?_)
          refine hfree i o him ho a'.eval W _ hb hcl hi1 hi2 (fun _ => rfl) (fun _ => rfl) (fun _ => rfl) (fun t ht => ?_) (fun e q d' he hq hqd => ?_)
          · replace ht : t ∉ freeDst l m := by simpa using ht
            simp only [Act.eval, Array.getD_eq_getD_getElem?]; rw [hoth t ht]
          · replace he : e ∈ deps o := by simpa using he
            exact hval e q d' (by have := hlt i o ho e he; omega) (hi2 e he) hq hqd
  have hrep : ∀ i, (Array.replicate l.toArray.size false).getD i false = false := fun i => by
    rw [Array.getD_eq_getD_getElem?, Array.getElem?_replicate]; split <;> rfl
  refine main m _ _ a _ (by simp) (fun i o _ h => ?_) (fun i _ _ => hrep i) rfl rfl (fun _ _ => rfl) (fun j q d _ h => ?_) ?_ ?_ ?_
  · exfalso; replace h : (Array.replicate l.toArray.size false).getD i false = true := h; rw [hrep] at h; cases h
  · exfalso; rw [hrep] at h; cases h
  · have : (fun i => (Array.replicate l.toArray.size false).getD i false) = fun _ => false := funext hrep
    rw [this]; exact h0
  · have := List.length_filter_le (fun i => !(Array.replicate l.toArray.size false).getD i false) (List.range m)
    simp only [List.length_range] at this; exact this
  · simp only [List.size_toArray]; omega

theorem closed_no {ops : List Oper} {D : Nat → Bool} (h : Closed ops D) {i s : Nat} (hi : D i = false) {o : Oper} (ho : ops[s]? = some o) (hd : (deps o).contains i = true) : D s = false := by
  cases hs : D s with
  | false => rfl
  | true => rw [h s o ho hs i (by simpa using hd)] at hi; cases hi
def GoesI (P : Program) (ops : List Oper) (m : Nat) (a0 : Act) (V : Nat → Value → Prop) (Inv : (Nat → Bool) → World → Prop) : List Oper → Nat → Prop
  | [], _ => True
  | o :: r, k => DoesI P ops m a0 V Inv k o ∧ GoesI P ops m a0 V Inv r (k + 1)
theorem GoesI.get {ops : List Oper} {m : Nat} {a0 : Act} {V : Nat → Value → Prop} {Inv : (Nat → Bool) → World → Prop} : ∀ (r : List Oper) (k : Nat), GoesI P ops m a0 V Inv r k → ∀ i o, r[i]? = some o → DoesI P ops m a0 V Inv (k + i) o := by
  intro r
  induction r with
  | nil => intro k _ i o h; simp at h
  | cons q r ih =>
    intro k h i o hi
    cases i with
    | zero => simp at hi; subst hi; exact h.1
    | succ i =>
      have := ih (k + 1) h.2 i o (by simpa using hi)
      rw [show k + (i + 1) = k + 1 + i from by omega]; exact this
theorem wp_inv {id : Nat} {a : Act} {w : World} (m n : Nat) (V : Nat → Value → Prop) (Inv : (Nat → Bool) → World → Prop) (hm : P.follows .mixedOrders = true) (hn : a.tmps.size = n) (hok : mixOK2 l m n = true) (h0 : Inv (fun _ => false) w.drew)
    (hfree : GoesI P l m a V Inv (l.take m) 0)
    (hfin : ∀ us W, Inv (fun i => decide (i < m)) W → (∀ i o, i < m → l[i]? = some o → o.dst.isSome = true → V i (us i)) → wpList P l.toArray Q (l.drop m) (fill (l.take m) us 0 a) W) :
    (Code.region id l.toArray true).wp P Q a w :=
  wp_region_any hm (wpAny_inv m n V Inv hn hok (fun i o him ho => by
    have := hfree.get _ _ i o (by rw [List.getElem?_take_of_lt him]; exact ho)
    simpa using this) h0 hfin)
theorem wp_inv_in {ln nn : Nat} {id : Nat} {a : Act} {w : World} (hL : ¬ LetsOut Q) (hnd : noDefer l = true) (m n : Nat) (V : Nat → Value → Prop) (Inv : (Nat → Bool) → World → Prop) (hm : P.follows .mixedOrders = true) (hn : a.tmps.size = n) (hok : mixOK2 l m n = true) (h0 : Inv (fun _ => false) w.drew)
    (hfree : GoesI P l m a V Inv (l.take m) 0)
    (hfin : ∀ us W, Inv (fun i => decide (i < m)) W → (∀ i o, i < m → l[i]? = some o → o.dst.isSome = true → V i (us i)) → wpList P l.toArray Q (l.drop m) (fill (l.take m) us 0 a) W) :
    (Code.region id l.toArray true).wpIn (Fence.wide.inRound ln) nn P Q a w :=
  region_any_in hL hnd hm (wpAny_inv m n V Inv hn hok (fun i o him ho => by
    have := hfree.get _ _ i o (by rw [List.getElem?_take_of_lt him]; exact ho)
    simpa using this) h0 hfin)
end
end Go.Proofs.Ytokhnlhffnidmaa
