/- The net's solve: parts of it. -/
import Derived.Test.YtokhnlhffnidmaaRefE
import Derived.Test.YtokhnlhffnidmaaRefG
import Derived.Test.YtokhnlhffnidmaaPlainE
namespace Go.Proofs.Ytokhnlhffnidmaa
open Go.RowKit Elen

def bcode (a b : Int) : Int := if a < 0 ∧ b < 0 then (if a < b then 1 else 2) else if a < 0 then 1 else if b < 0 then 2 else 0

theorem bound_calls (a b : Int) (w : World) : Calls Try.prog 38 #[.int .i64 a, .int .i64 b] w fun e w' => e = .returned (.int .i64 (bcode a b)) ∧ w = w' := by
  go_enter Try.func38, Try.ntmps38
  by_cases h1 : a < 0
  · by_cases h2 : b < 0
    · by_cases h3 : a < b
      · have hf : Hid (bcode a b = 1) := by
          have : bcode a b = 1 := by unfold bcode; rw [if_pos ⟨h1, h2⟩, if_pos h3]
          exact this
        go_wp2
        go_ret
        exact ⟨ret_int hf.out.symm, rfl⟩
      · have hf : Hid (bcode a b = 2) := by
          have : bcode a b = 2 := by unfold bcode; rw [if_pos ⟨h1, h2⟩, if_neg h3]
          exact this
        go_wp2
        go_ret
        exact ⟨ret_int hf.out.symm, rfl⟩
    · have hf : Hid (bcode a b = 1) := by
        have : bcode a b = 1 := by unfold bcode; rw [if_neg (fun h => h2 h.2), if_pos h1]
        exact this
      go_wp2
      go_ret
      exact ⟨ret_int hf.out.symm, rfl⟩
  · by_cases h2 : b < 0
    · have hf : Hid (bcode a b = 2) := by
        have : bcode a b = 2 := by unfold bcode; rw [if_neg (fun h => h1 h.1), if_neg h1, if_pos h2]
        exact this
      go_wp2
      go_ret
      exact ⟨ret_int hf.out.symm, rfl⟩
    · have hf : Hid (bcode a b = 0) := by
        have : bcode a b = 0 := by unfold bcode; rw [if_neg (fun h => h1 h.1), if_neg h1, if_neg h2]
        exact this
      go_wp2
      go_ret
      exact ⟨ret_int hf.out.symm, rfl⟩

/-- pairs of parts -/
def KP : Kind (Nat × Nat) where
  sz := 2
  by_ := 16
  pos := by decide
  bpos := by decide
  R _ _ p vs := vs = [.int .i64 (p.1 : Int), .int .i64 (p.2 : Int)]
  len h := by subst h; rfl
  one h := by subst h; intro u hu; simp only [List.mem_cons, List.not_mem_nil, or_false] at hu; rcases hu with rfl | rfl <;> rfl
  mono _ h := h
  move _ h := h
  bound h := h

/-- what a part is bound to is stored -/
theorem NetB.to_ {F : Nat → Prop} {base : Nat} {W : World} {gn : Nat} {N : List Nd} {cs : List Value} {av : Nat → Value} {g cap a b L : Nat} (h : NetB F base W gn N (.slice (some ⟨g, 0, none⟩) L cap) cs av) (ha : a < N.length) (hL : L = N.length) :
    NetB F base (W.setCell ⟨g, a * 3 + 2, none⟩ (.int .i64 (b : Int))) gn (setTo N a b) (.slice (some ⟨g, 0, none⟩) L cap) (cs.set (a * 3 + 2) (.int .i64 (b : Int))) av := by
  subst hL
  have hcl : cs.length = N.length * 3 := h.own.1
  have hlen : (setTo N a b).length = N.length := by simp [setTo]
  have hget : ∀ (j : Nat) (x : Nd), (setTo N a b)[j]? = some x → ∃ x0 : Nd, N[j]? = some x0 ∧ x.head = x0.head ∧ x.args = x0.args ∧ (j ≠ a → x.to = x0.to) ∧ (j = a → x.to = b) := by
    intro j x e
    rw [setTo_get] at e
    obtain ⟨x0, e0, rfl⟩ := Option.map_eq_some_iff.1 e
    refine ⟨x0, e0, by split <;> rfl, by split <;> rfl, fun c => by rw [if_neg c], fun c => by rw [if_pos c]⟩
  refine ⟨?_, ?_, by rw [hlen]; exact h.room, fun j x e => ?_, fun j x e => ?_, fun j x e => ?_, fun i j hij hj => ?_, h.fn, h.fl, fun j x k e hk => ?_, fun k hk => ?_⟩
  · rw [Below.heap_setCell _ _ _ _ (fun e => h.ne_gn (by rw [e]; rfl))]; exact h.at_
  · rw [hlen]; exact (h.own.stored (a * 3 + 2) _).1
  · obtain ⟨x0, e0, a1, a2, a3, a4⟩ := hget j x e
    obtain ⟨c0, c1, c2⟩ := h.cell j x0 e0
    have hj : j < N.length := (List.getElem?_eq_some_iff.1 e0).1
    have hs : ∀ p, p ≠ a * 3 + 2 → (cs.set (a * 3 + 2) (Value.int .i64 (b : Int)))[p]? = cs[p]? := fun p hp => List.getElem?_set_ne (Ne.symm hp)
    refine ⟨by rw [a1, hs _ (by omega)]; exact c0, by rw [hs _ (by omega)]; exact c1, ?_⟩
    by_cases c : j = a
    · subst c; rw [a4 rfl, List.getElem?_set_self (by omega)]
    · rw [a3 c, hs _ (by omega)]; exact c2
  · obtain ⟨x0, e0, a1, _⟩ := hget j x e
    rw [a1]; exact h.i64 j x0 e0
  · obtain ⟨x0, e0, _, a2, _⟩ := hget j x e
    rw [a2]
    obtain ⟨b1, b2⟩ := h.args j x0 e0
    refine ⟨⟨b1.1, b1.2.imp id ?_⟩, b2⟩
    rintro ⟨g', cap', cur, e', r1, r2, r3⟩
    refine ⟨g', cap', cur, e', r1, ?_, r3⟩
    rw [Below.heap_setCell _ _ _ _ (fun e'' => (h.ne_arg e0).2 g rfl (by rw [e']; simp only [Value.ownBlock]; rw [e'']))]
    exact r2
  · rw [hlen] at hj; exact h.apart i j hij hj
  · obtain ⟨x0, e0, _⟩ := hget j x e
    exact h.fa j x0 k e0 hk
  · have := h.lt k hk
    exact ⟨this.1, by simpa [World.setCell] using this.2⟩

/-! ### the table of pairs that were met -/
def Mb (gm d : Nat) (rm : Nat → Nat) (k : Nat) : Prop := k = gm ∨ ∃ i, i < d ∧ k = rm i
structure MetP (B : Nat) (w : World) (gm n d : Nat) (rm : Nat → Nat) (m : Elen.Met) : Prop where
  top : ∃ tops : List Value, w.heap[gm]? = some (.cells tops.toArray 85 (0, 0)) ∧ tops.length = n ∧ ∀ i, i < d → tops[i]? = some (.slice (some ⟨rm i, 0, none⟩) n n)
  row : ∀ i, i < d → w.heap[rm i]? = some (.cells ((List.range n).map fun j => Value.bool (m i j)).toArray 4 (0, 0))
  inj : ∀ i j, i < d → j < d → rm i = rm j → i = j
  ge : ∀ k, Mb gm d rm k → B ≤ k ∧ k < w.heap.size
  ne : ∀ i, i < d → rm i ≠ gm

theorem MetP.keep {B : Nat} {w w1 : World} {gm n d : Nat} {rm : Nat → Nat} {m : Elen.Met} (h : MetP B w gm n d rm m) (hm : ∀ k, Mb gm d rm k → w1.heap[k]? = w.heap[k]?) (hz : w.heap.size ≤ w1.heap.size) : MetP B w1 gm n d rm m := by
  obtain ⟨tops, t1, t2⟩ := h.top
  exact ⟨⟨tops, (hm gm (.inl rfl)).trans t1, t2⟩, fun i hi => (hm _ (.inr ⟨i, hi, rfl⟩)).trans (h.row i hi), h.inj, fun k hk => ⟨(h.ge k hk).1, Nat.lt_of_lt_of_le (h.ge k hk).2 hz⟩, h.ne⟩

theorem MetP.made {w : World} (n : Nat) : MetP w.heap.size (w.alloc (.cells (madeCells #[.slice none 0 0] n) 85)) w.heap.size n 0 (fun _ => 0) (fun _ _ => false) := by
  refine ⟨⟨(madeCells #[.slice none 0 0] n).toList, by simpa using heap_alloc_new w _, by simp [madeCells], fun i hi => by omega⟩, fun i hi => by omega, fun i j hi => by omega, fun k hk => ?_, fun i hi => by omega⟩
  rcases hk with rfl | ⟨i, hi, _⟩
  · simp
  · omega

/-- one row more -/
theorem MetP.more {B : Nat} {w : World} {gm n d : Nat} {rm : Nat → Nat} (h : MetP B w gm n d rm fun _ _ => false) (hd : d < n) :
    MetP B ((w.alloc (.cells (madeCells #[.bool false] n) 4)).setCell ⟨gm, d, none⟩ (.slice (some ⟨w.heap.size, 0, none⟩) n n)) gm n (d + 1) (fun i => if i = d then w.heap.size else rm i) fun _ _ => false := by
  obtain ⟨tops, t1, t2, t3⟩ := h.top
  have hg := h.ge gm (.inl rfl)
  have hz : ((w.alloc (.cells (madeCells #[.bool false] n) 4)).setCell ⟨gm, d, none⟩ (.slice (some ⟨w.heap.size, 0, none⟩) n n)).heap.size = w.heap.size + 1 := by simp [World.setCell]
  have e0 : madeCells #[.bool false] n = ((List.range n).map fun _ => Value.bool false).toArray := by
    apply Array.ext
    · simp [madeCells]
    · intro i h1 h2; simp [madeCells, Nat.mod_one]
  refine ⟨⟨tops.set d (.slice (some ⟨w.heap.size, 0, none⟩) n n), ?_, by simpa using t2, fun i hi => ?_⟩, fun i hi => ?_, fun i j hi hj e => ?_, fun k hk => ?_, fun i hi => ?_⟩
  · have := heap_setCell_at (w := w.alloc (.cells (madeCells #[.bool false] n) 4)) ((Below.heap_alloc w _ gm hg.2).trans t1) d (.slice (some ⟨w.heap.size, 0, none⟩) n n)
    rw [this]; simp
  · by_cases c : i = d
    · subst c; rw [if_pos rfl, List.getElem?_set_self (by omega)]
    · rw [if_neg c, List.getElem?_set_ne (fun e => c e.symm)]; exact t3 i (by omega)
  · by_cases c : i = d
    · rw [if_pos c, Below.heap_setCell _ _ _ _ (by simp only; omega), heap_alloc_new, e0]
    · rw [if_neg c]
      have hi' := h.ge (rm i) (.inr ⟨i, by omega, rfl⟩)
      rw [Below.heap_setCell _ _ _ _ (h.ne i (by omega)), Below.heap_alloc _ _ _ hi'.2]
      exact h.row i (by omega)
  · by_cases c : i = d
    · rw [if_pos c] at e
      by_cases c' : j = d
      · omega
      · rw [if_neg c'] at e
        have := (h.ge (rm j) (.inr ⟨j, by omega, rfl⟩)).2; omega
    · rw [if_neg c] at e
      by_cases c' : j = d
      · rw [if_pos c'] at e
        have := (h.ge (rm i) (.inr ⟨i, by omega, rfl⟩)).2; omega
      · rw [if_neg c'] at e; exact h.inj i j (by omega) (by omega) e
  · rw [hz]
    rcases hk with rfl | ⟨i, hi, rfl⟩
    · exact ⟨hg.1, by omega⟩
    · dsimp only
      by_cases c : i = d
      · rw [if_pos c]; omega
      · rw [if_neg c]
        have := h.ge (rm i) (.inr ⟨i, by omega, rfl⟩)
        exact ⟨this.1, by omega⟩
  · by_cases c : i = d
    · rw [if_pos c]; omega
    · rw [if_neg c]; exact h.ne i (by omega)

/-- a pair is met -/
theorem MetP.set {B : Nat} {w : World} {gm n : Nat} {rm : Nat → Nat} {m : Elen.Met} (h : MetP B w gm n n rm m) {a b : Nat} (ha : a < n) :
    MetP B (w.setCell ⟨rm a, b, none⟩ (.bool true)) gm n n rm (m.add a b) := by
  obtain ⟨tops, t1, t2, t3⟩ := h.top
  refine ⟨⟨tops, ?_, t2, t3⟩, fun i hi => ?_, h.inj, fun k hk => ?_, h.ne⟩
  · rw [Below.heap_setCell _ _ _ _ (fun e => h.ne a ha e.symm)]; exact t1
  · by_cases c : i = a
    · subst c
      rw [heap_setCell_at (h.row i hi)]
      congr 2
      apply Array.ext
      · simp
      · intro j h1 h2
        simp only [List.getElem_toArray, List.getElem_map, List.getElem_range, Elen.Met.add]
        by_cases c' : b = j
        · subst c'; simp
        · have : ¬ j = b := fun e => c' e.symm
          simp [c', this]
    · rw [Below.heap_setCell _ _ _ _ (fun e => c (h.inj i a hi ha e)), h.row i hi]
      simp [Elen.Met.add, c]
  · have := h.ge k hk
    exact ⟨this.1, by simpa [World.setCell] using this.2⟩

theorem MetP.cells {B : Nat} {w : World} {gm n : Nat} {rm : Nat → Nat} {m : Elen.Met} (h : MetP B w gm n n rm m) {a b : Nat} (ha : a < n) (hb : b < n) :
    w.cell? ⟨gm, a, none⟩ = some (.slice (some ⟨rm a, 0, none⟩) n n) ∧ w.cell? ⟨rm a, b, none⟩ = some (.bool (m a b)) ∧ w.frozen? ⟨rm a, b, none⟩ = false := by
  obtain ⟨tops, t1, t2, t3⟩ := h.top
  refine ⟨cell_of_block t1 (by simpa using t3 a ha), cell_of_block (h.row a ha) (by simp [hb]), frozen_of_block (h.row a ha) b⟩


theorem made_seen (W : World) (n : Nat) : SeenAt (W.alloc (.cells (madeCells #[.bool false] n) 4)) W.heap.size (List.replicate n false) := by
  have e : madeCells #[.bool false] n = ((List.replicate n false).map Value.bool).toArray := by
    apply Array.ext
    · simp [madeCells]
    · intro i h1 h2; simp [madeCells, Nat.mod_one]
  unfold SeenAt
  rw [← e]
  exact heap_alloc_new _ _
theorem seenInv_none (N : List Nd) (s : Sub) (v : Int) (z n : Nat) : SeenInv N s v z (List.replicate n false) := by
  intro y ty fy hy
  rw [List.getElem?_replicate] at hy
  split at hy <;> cases hy

/-- the run, with its length -/
inductive RRunK : Nat → List Nd → Sub → Elen.Met → List (Nat × Nat) → Option (List Nd × Sub) → Prop
  | nil {n s m} : RRunK 0 n s m [] (some (n, s))
  | skip {k n s m p i j l r} : Beh n p.1 i → Beh n p.2 j → (i = j ∨ m i j = true) → RRunK k n s m l r → RRunK (k + 1) n s m (p :: l) r
  | occurs {n s m p i j a b l t t'} {x y : Nd} : Beh n p.1 i → Beh n p.2 j → i ≠ j → m i j = false → At2 n i j a b x y → x.head < 0 → Den n b t → Full s t t' → T.has (-1 - x.head) t' = true → RRunK 0 n s m (p :: l) none
  | bind {k n s m p i j a b l r t t'} {x y : Nd} : Beh n p.1 i → Beh n p.2 j → i ≠ j → m i j = false → At2 n i j a b x y → x.head < 0 → Den n b t → Full s t t' → T.has (-1 - x.head) t' = false → RRunK k (setTo n a b) (s.set (-1 - x.head) t) m l r → RRunK (k + 1) n s m (p :: l) r
  | clash {n s m p i j l} {x y : Nd} : Beh n p.1 i → Beh n p.2 j → i ≠ j → m i j = false → n[i]? = some x → n[j]? = some y → 0 ≤ x.head → 0 ≤ y.head → (x.head ≠ y.head ∨ x.args.length ≠ y.args.length) → RRunK 0 n s m (p :: l) none
  | node {k n s m p i j l r} {x y : Nd} : Beh n p.1 i → Beh n p.2 j → i ≠ j → m i j = false → n[i]? = some x → n[j]? = some y → 0 ≤ x.head → 0 ≤ y.head → x.head = y.head → x.args.length = y.args.length → RRunK k n s (m.add i j) (x.args.zip y.args ++ l) r → RRunK (k + 1) n s m (p :: l) r
theorem Elen.RRun.count {n : List Nd} {s : Sub} {m : Elen.Met} {l : List (Nat × Nat)} {r : Option (List Nd × Sub)} (h : RRun n s m l r) : ∃ k, RRunK k n s m l r := by
  induction h with
  | nil => exact ⟨0, .nil⟩
  | skip h1 h2 h3 _ ih => obtain ⟨k, ih⟩ := ih; exact ⟨k + 1, .skip h1 h2 h3 ih⟩
  | occurs h1 h2 h3 h4 h5 h6 h7 h8 h9 => exact ⟨0, .occurs h1 h2 h3 h4 h5 h6 h7 h8 h9⟩
  | bind h1 h2 h3 h4 h5 h6 h7 h8 h9 _ ih => obtain ⟨k, ih⟩ := ih; exact ⟨k + 1, .bind h1 h2 h3 h4 h5 h6 h7 h8 h9 ih⟩
  | clash h1 h2 h3 h4 h5 h6 h7 h8 h9 => exact ⟨0, .clash h1 h2 h3 h4 h5 h6 h7 h8 h9⟩
  | node h1 h2 h3 h4 h5 h6 h7 h8 h9 h10 _ ih => obtain ⟨k, ih⟩ := ih; exact ⟨k + 1, .node h1 h2 h3 h4 h5 h6 h7 h8 h9 h10 ih⟩

end Go.Proofs.Ytokhnlhffnidmaa
