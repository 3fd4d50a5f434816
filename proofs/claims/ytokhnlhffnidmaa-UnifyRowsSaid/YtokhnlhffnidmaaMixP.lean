/- A region that draws its order, some of whose idle operations may come late: they are taken first. -/
import Derived.Test.YtokhnlhffnidmaaMix
namespace Go.Proofs.Ytokhnlhffnidmaa
open Go.RowKit
section
variable {P : Program} {l : List Oper} {Q : Exit → Act → World → Prop}

/-- Some idle ones that may come late are taken first: their values hang on nothing. -/
def takes (l : List Oper) : List (Nat × Value) → Act → Act
  | [], a => a
  | (i, v) :: r, a => takes l r (a.put ((l[i]?).bind (·.dst)) v)
def listing : List (Nat × Value) → Array Bool → Array Bool
  | [], b => b
  | (i, _) :: r, b => listing r (b.setIfInBounds i true)
/-- an idle one: nothing stands ahead of it, no guard -/
def idle (l : List Oper) (m i : Nat) : Bool :=
  decide (i < m) && Region.free .any l.toArray (Array.replicate l.length false) i && (match l[i]? with | none => false | some o => (deps o).isEmpty && o.guard.isNone)

theorem listing_get : ∀ (r : List (Nat × Value)) (b : Array Bool) (j : Nat), (listing r b).getD j false = true ↔ b.getD j false = true ∨ (j ∈ r.map (·.1) ∧ j < b.size) := by
  intro r
  induction r with
  | nil => intro b j; simp [listing]
  | cons x r ih =>
    obtain ⟨i, v⟩ := x
    intro b j
    rw [listing, ih, Array.getD_eq_getD_getElem?, Array.getElem?_setIfInBounds]
    by_cases c : i = j
    · subst c
      by_cases h : i < b.size
      · simp [h]
      · simp [h]
    · have c' : ¬ j = i := fun e => c e.symm
      simp only [c, if_false, List.map_cons, List.mem_cons, c', false_or, Array.size_setIfInBounds]
      rw [← Array.getD_eq_getD_getElem?]
theorem listing_size : ∀ (r : List (Nat × Value)) (b : Array Bool), (listing r b).size = b.size := by
  intro r
  induction r with
  | nil => intro b; rfl
  | cons x r ih => intro b; obtain ⟨i, v⟩ := x; rw [listing, ih]; simp
theorem takes_defers : ∀ (r : List (Nat × Value)) (a : Act), (takes l r a).defers = a.defers := by
  intro r
  induction r with
  | nil => intro a; rfl
  | cons x r ih => intro a; obtain ⟨i, v⟩ := x; rw [takes, ih]; cases (l[i]?).bind (·.dst) <;> rfl
theorem takes_size : ∀ (r : List (Nat × Value)) (a : Act), (takes l r a).tmps.size = a.tmps.size := by
  intro r
  induction r with
  | nil => intro a; rfl
  | cons x r ih => intro a; obtain ⟨i, v⟩ := x; rw [takes, ih, put_size]
theorem takes_other : ∀ (r : List (Nat × Value)) (a : Act) (t : Nat), (∀ i v o, (i, v) ∈ r → l[i]? = some o → o.dst ≠ some t) → (takes l r a).tmps[t]? = a.tmps[t]? := by
  intro r
  induction r with
  | nil => intro a t _; rfl
  | cons x r ih =>
    obtain ⟨i, v⟩ := x
    intro a t h
    rw [takes, ih _ _ (fun j u o hj => h j u o (by simp [hj]))]
    cases ho : l[i]? with
    | none => rfl
    | some o =>
      simp only [Option.bind_some]
      cases hd : o.dst with
      | none => rfl
      | some d => rw [put_get, if_neg (fun e => h i v o (by simp) ho (by rw [hd, e]))]

theorem wpAny_takes (hs : Region.noSelect l.toArray = true) (hQ : ∀ c a d v w, Q (.panic c) (Act.put a d v) w → Q (.panic c) a w) (m : Nat) (a0 : Act) : ∀ (r : List (Nat × Value)) (fuel : Nat) (b : Array Bool) (a : Act) (w : World), b.size = l.length →
    (∀ i v, (i, v) ∈ r → idle l m i = true ∧ b.getD i false = false ∧ ∀ o w, l[i]? = some o → (execOp a0.eval o).run P w = .ok (.value v) w) → (r.map (·.1)).Nodup →
    (∀ i v o, (i, v) ∈ r → l[i]? = some o → execOp a.eval o = execOp a0.eval o) →
    wpAny P .any l.toArray Q fuel (listing r b) (takes l r a) w → wpAny P .any l.toArray Q (fuel + r.length) b a w := by
  intro r
  induction r with
  | nil => intro fuel b a w _ _ _ _ h; exact h
  | cons x r ih =>
    obtain ⟨i, v⟩ := x
    intro fuel b a w hbs hall hnd hsame h
    obtain ⟨hid, hbi, hy⟩ := hall i v (by simp)
    simp only [idle, Bool.and_eq_true, decide_eq_true_eq] at hid
    obtain ⟨⟨_, hf⟩, hid⟩ := hid
    cases ho : l[i]? with
    | none => rw [ho] at hid; cases hid
    | some o =>
      rw [ho] at hid
      simp only [Bool.and_eq_true, List.isEmpty_iff, Option.isNone_iff_eq_none] at hid
      obtain ⟨hdep, hgd⟩ := hid
      have hil : i < l.length := (List.getElem?_eq_some_iff.1 ho).1
      have e0 : l.toArray[i]? = some o := by simpa using ho
      simp only [List.map_cons, List.nodup_cons] at hnd
      have hfree : Region.free .any l.toArray b i = true := by
        simp only [Region.free, e0, List.all_eq_true, List.mem_range] at hf ⊢
        intro j hj
        have := hf j hj
        rw [Bool.or_eq_true, Bool.or_eq_true] at this ⊢
        rcases this with (h1 | h1) | h1
        · exact .inl (.inl h1)
        · rw [Array.getD_eq_getD_getElem?, Array.getElem?_replicate] at h1
          have hj' : j < l.length := by simpa using hj
          simp [hj'] at h1
        · exact .inr h1
      rw [List.length_cons, ← Nat.add_assoc, Nat.add_right_comm]
      refine Nat.add_right_comm fuel 1 r.length ▸ ?_
      refine wpAny_take (v := v) e0 hs hfree ?_ (fun c a w h => hQ c a o.dst v w h) (.inl ⟨by simp [Region.wanted, hgd], fun w => by rw [hsame i v o (by simp) ho]; exact hy o w ho⟩) ?_
      · have : i ∈ Region.ready .any l.toArray b := ready_mem ho (by
          rw [Array.getD_eq_getD_getElem?, Array.getElem?_eq_getElem (by omega)]
          rw [Array.getD_eq_getD_getElem?, Array.getElem?_eq_getElem (by omega)] at hbi
          exact hbi) (fun e he => by rw [hdep] at he; cases he)
        simpa using this
      · have hh := h
        rw [listing, takes, ho] at hh
        refine ih fuel _ _ w (by simpa using hbs) (fun j u hj => ?_) hnd.2 (fun j u q hj hq => ?_) hh
        · obtain ⟨k1, k2, k3⟩ := hall j u (by simp [hj])
          refine ⟨k1, ?_, k3⟩
          rw [Array.getD_eq_getD_getElem?, Array.getElem?_setIfInBounds, if_neg, ← Array.getD_eq_getD_getElem?]
          · exact k2
          · rintro rfl; exact hnd.1 (List.mem_map.2 ⟨_, hj, rfl⟩)
        · rw [← hsame j u q (by simp [hj]) hq]
          obtain ⟨k1, _, _⟩ := hall j u (by simp [hj])
          simp only [idle, Bool.and_eq_true, hq, List.isEmpty_iff] at k1
          have hjd := k1.2.1
          have hq0 : l.toArray[j]? = some q := by simpa using hq
          have hne : j ≠ i := by rintro rfl; exact hnd.1 (List.mem_map.2 ⟨_, hj, rfl⟩)
          have hap := Region.free_spec e0 hf j q hq0 hne (by
            rw [Array.getD_eq_getD_getElem?, Array.getElem?_replicate, if_pos (List.getElem?_eq_some_iff.1 hq).1]; rfl) (fun e he hb hon => by
            have : e.on ∈ deps q := List.mem_map.2 ⟨e, List.mem_filter.2 ⟨Array.mem_toList_iff.2 he, hb⟩, rfl⟩
            rw [hjd] at this; cases this)
          exact execOp_put (ops := l.toArray) q (Region.noSelect_spec hs j q · · hq0) a o.dst v (Oper.apart_spec hap).1

theorem takes_at : ∀ (r : List (Nat × Value)) (a : Act) (i : Nat) (v : Value) (o : Oper) (d : Nat), (i, v) ∈ r → (r.map (·.1)).Nodup → l[i]? = some o → o.dst = some d → d < a.tmps.size → (∀ j u q, (j, u) ∈ r → j ≠ i → l[j]? = some q → q.dst ≠ some d) → (takes l r a).tmps[d]? = some v := by
  intro r
  induction r with
  | nil => intro a i v o d h; cases h
  | cons x r ih =>
    obtain ⟨k, u⟩ := x
    intro a i v o d hmem hnd ho hd hsz hoth
    simp only [List.map_cons, List.nodup_cons] at hnd
    rw [takes]
    rcases List.mem_cons.1 hmem with h | h
    · cases h
      rw [takes_other _ _ _ (fun j u q hj hq => hoth j u q (by simp [hj]) (by rintro rfl; exact hnd.1 (List.mem_map.2 ⟨_, hj, rfl⟩)) hq), ho]
      simp only [Option.bind_some, hd]
      rw [put_get, if_pos rfl, if_pos hsz]
    · exact ih _ i v o d h hnd.2 ho hd (by rw [put_size]; exact hsz) (fun j u q hj hne hq => hoth j u q (by simp [hj]) hne hq)

set_option maxHeartbeats 2000000 in
theorem wp_mix_pre {id : Nat} {a : Act} {w : World} (pre : List (Nat × Value)) (pi : List Nat) (m n : Nat) (V : Nat → World → Value → Prop) (hpi : pre.map (·.1) = pi) (hm : P.follows .mixedOrders = true) (hn : a.tmps.size = n) (hok : mixOK l pi m n = true)
    (hV : ∀ i W W' u, Below W.heap.size W W' → V i W u → V i W' u)
    (hs : Region.noSelect l.toArray = true) (hQ : ∀ c a d v w, Q (.panic c) (Act.put a d v) w → Q (.panic c) a w)
    (hidle : (pi.all (idle l m)) = true) (hnd : pi.Nodup) (hcnt : decide (l.length - m + ((List.range m).filter fun i => !pi.contains i).length + pi.length ≤ l.length) = true)
    (hy : ∀ i v, (i, v) ∈ pre → (∀ W, V i W v) ∧ ∀ o w, l[i]? = some o → (execOp a.eval o).run P w = .ok (.value v) w)
    (hfree : GoesL P l m a w V (l.take m) 0)
    (hfin : ∀ us W, Below w.heap.size w W → (∀ i, i < m → V i W (us i)) → wpList P l.toArray Q (l.drop m) (fill (l.take m) us 0 a) W) :
    (Code.region id l.toArray true).wp P Q a w := by
  subst hpi
  refine wp_region_any hm ?_
  simp only [decide_eq_true_eq, List.all_eq_true] at hcnt hidle
  have hlen : l.toArray.size = (l.length - (pre.map (·.1)).length) + pre.length := by simp at hcnt ⊢; omega
  have hsz : (Array.replicate l.toArray.size false).size = l.length := by simp
  have hrep : ∀ i, (Array.replicate l.toArray.size false).getD i false = false := by
    intro i; rw [Array.getD_eq_getD_getElem?, Array.getElem?_replicate]; split <;> rfl
  have hidx : ∀ i v, (i, v) ∈ pre → i < m ∧ ∃ o, l[i]? = some o ∧ deps o = [] := by
    intro i v h
    have := hidle i (List.mem_map.2 ⟨_, h, rfl⟩)
    simp only [idle, Bool.and_eq_true, decide_eq_true_eq] at this
    refine ⟨this.1.1, ?_⟩
    cases ho : l[i]? with
    | none => rw [ho] at this; cases this.2
    | some o => rw [ho] at this; simp only [Bool.and_eq_true, List.isEmpty_iff] at this; exact ⟨o, rfl, this.2.1⟩
  have hlist : ∀ j, (listing pre (Array.replicate l.toArray.size false)).getD j false = true ↔ j ∈ pre.map (·.1) := by
    intro j
    rw [listing_get, hrep, hsz]
    constructor
    · rintro (h | h)
      · cases h
      · exact h.1
    · intro h
      refine .inr ⟨h, ?_⟩
      obtain ⟨⟨i, v⟩, hx, rfl⟩ := List.mem_map.1 h
      obtain ⟨_, o, ho, _⟩ := hidx i v hx
      exact (List.getElem?_eq_some_iff.1 ho).1
  have hok' := hok
  simp only [mixOK, Bool.and_eq_true, decide_eq_true_eq, List.all_eq_true] at hok'
  have hnodup := hok'.1.1.1.2
  have hdsz := hok'.1.1.2
  have hmemD : ∀ i v o d, (i, v) ∈ pre → l[i]? = some o → o.dst = some d → d ∈ freeDst l m := by
    intro i v o d h ho hd
    have him := (hidx i v h).1
    have hil : i < l.length := (List.getElem?_eq_some_iff.1 ho).1
    exact List.mem_filterMap.2 ⟨o, List.mem_iff_getElem.2 ⟨i, by simp; omega, by rw [List.getElem?_eq_getElem hil] at ho; simpa using ho⟩, hd⟩
  refine (congrArg (fun f => wpAny P .any l.toArray Q f (Array.replicate l.toArray.size false) a { w with drawn := w.drawn + 1 }) hlen).mpr ?_
  refine wpAny_takes hs hQ m a pre _ _ a _ hsz (fun i v h => ⟨hidle i (List.mem_map.2 ⟨_, h, rfl⟩), hrep i, (hy i v h).2⟩) hnd (fun _ _ _ _ _ => rfl) ?_
  refine wpAny_mix (pre.map (·.1)) m n V hn hok hV (fun i o him ho => .inr ?_) hfin _ _ ?_ (fun i o ho h => ?_) (fun i hi _ => ?_) (takes_defers _ _) (takes_size _ _) (fun t ht => ?_) (fun j q d hj h hq hd => ?_) (Below.refl _ _).drew (fun j hj => (hlist j).2 hj) ?_
  · have := hfree.get _ _ i o (by rw [List.getElem?_take_of_lt him]; exact ho)
    simpa using this
  · rw [listing_size]; exact hsz
  · intro e he
    obtain ⟨⟨i', v⟩, hx, rfl⟩ := List.mem_map.1 ((hlist i).1 h)
    obtain ⟨_, o', ho', hdp⟩ := hidx i' v hx
    rw [ho] at ho'; cases ho'
    rw [hdp] at he; cases he
  · cases hc : (listing pre (Array.replicate l.toArray.size false)).getD i false with
    | false => rfl
    | true =>
      obtain ⟨⟨i', v⟩, hx, rfl⟩ := List.mem_map.1 ((hlist i).1 hc)
      have := (hidx i' v hx).1
      simp only at hi
      omega
  · exact takes_other _ _ _ (fun i v o h ho hd => ht (hmemD i v o t h ho hd))
  · obtain ⟨⟨j', v⟩, hx, rfl⟩ := List.mem_map.1 ((hlist j).1 h)
    have hlt : d < a.tmps.size := by rw [hn]; simpa using hdsz d (hmemD j' v q d hx hq hd)
    have := takes_at pre a j' v q d hx hnd hq hd hlt (fun k u r hk hne hr hrd => by
      have hkm := (hidx k u hk).1
      have hjl : j' < (l.take m).length := by have := (List.getElem?_eq_some_iff.1 hq).1; simp only at hj; simp; omega
      have hkl : k < (l.take m).length := by have := (List.getElem?_eq_some_iff.1 hr).1; simp; omega
      have hp := (List.nodup_iff_pairwise_ne.1 hnodup)
      unfold freeDst at hp
      rw [List.pairwise_filterMap] at hp
      have a1 : (l.take m)[j'] = q := by have := (List.getElem?_eq_some_iff.1 hq).2; simpa using this
      have a2 : (l.take m)[k] = r := by have := (List.getElem?_eq_some_iff.1 hr).2; simpa using this
      rcases Nat.lt_or_ge j' k with c | c
      · have := List.pairwise_iff_getElem.1 hp j' k hjl hkl c
        rw [a1, a2] at this
        exact this d hd d hrd rfl
      · have := List.pairwise_iff_getElem.1 hp k j' hkl hjl (by omega)
        rw [a1, a2] at this
        exact this d hrd d hd rfl)
    rw [Array.getD_eq_getD_getElem?, this]
    exact (hy j' v hx).1 _
  · have e : ((List.range m).filter fun i => !(listing pre (Array.replicate l.toArray.size false)).getD i false) = (List.range m).filter fun i => !(pre.map (·.1)).contains i := by
      apply List.filter_congr
      intro i _
      congr 1
      rw [Bool.eq_iff_iff, hlist]; simp
    rw [e]
    simp at hcnt ⊢; omega
end
end Go.Proofs.Ytokhnlhffnidmaa
