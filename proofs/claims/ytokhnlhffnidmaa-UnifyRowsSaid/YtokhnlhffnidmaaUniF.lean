/- The solver's solve. -/
import Derived.Test.YtokhnlhffnidmaaUniE
import Derived.Test.YtokhnlhffnidmaaMixJ
import Derived.Test.YtokhnlhffnidmaaPlainG
namespace Go.Proofs.Ytokhnlhffnidmaa
open Go.RowKit Go.Shelf Elen

def USolvePost (F : Nat → Prop) (sp mb : Nat) (r : Option Sub) (w : World) (e : Ending) (w' : World) : Prop :=
  e = .returned (.bool r.isSome) ∧ (∀ s', r = some s' → ∃ D', Solv F w' sp mb 256 s' D') ∧ SameOn (fun k => k ≠ mb) w w'

/-- what holds at the head of a round -/
structure SolveR (F : Nat → Prop) (sp mb sb : Nat) (w : World) (U : List T) (n0 : Nat) (s : Sub) (l : List (T × T)) (v : Value) (wr : World) : Prop where
  solv : ∃ D, Solv F wr sp mb 256 s D
  run : RunI U n0 s l
  stk : StkB F w.heap.size sb wr v l.reverse
  same : SameOn (fun k => k ≠ mb) w wr
  size : w.heap.size ≤ sb

theorem Elen.RunK.inv {k : Nat} {s : Sub} {l : List (T × T)} {r : Option Sub} (h : RunK k s l r) :
    (l = [] ∧ r = some s) ∨ ∃ a b x y l1, l = (a, b) :: l1 ∧ Pair2 s a b x y ∧
      ((x.head < 0 ∧ x.head = y.head ∧ ∃ k', k = k' + 1 ∧ RunK k' s l1 r) ∨
       (x.head < 0 ∧ x.head ≠ y.head ∧ ∃ y', Full s y y' ∧ ((T.has (-1 - x.head) y' = true ∧ r = none) ∨ (T.has (-1 - x.head) y' = false ∧ ∃ k', k = k' + 1 ∧ RunK k' (s.set (-1 - x.head) y) l1 r))) ∨
       (0 ≤ x.head ∧ (x.head ≠ y.head ∨ x.args.length ≠ y.args.length) ∧ r = none) ∨
       (0 ≤ x.head ∧ x.head = y.head ∧ x.args.length = y.args.length ∧ ∃ k', k = k' + 1 ∧ RunK k' s (x.args.zip y.args ++ l1) r)) := by
  cases h with
  | nil => exact .inl ⟨rfl, rfl⟩
  | same h1 h2 h3 h4 => exact .inr ⟨_, _, _, _, _, rfl, h1, .inl ⟨h2, h3, _, rfl, h4⟩⟩
  | occurs h1 h2 h3 h4 h5 => exact .inr ⟨_, _, _, _, _, rfl, h1, .inr (.inl ⟨h2, h3, _, h4, .inl ⟨h5, rfl⟩⟩)⟩
  | bind h1 h2 h3 h4 h5 h6 => exact .inr ⟨_, _, _, _, _, rfl, h1, .inr (.inl ⟨h2, h3, _, h4, .inr ⟨h5, _, rfl, h6⟩⟩)⟩
  | clash h1 h2 h3 => exact .inr ⟨_, _, _, _, _, rfl, h1, .inr (.inr (.inl ⟨h2, h3, rfl⟩))⟩
  | node h1 h2 h3 h4 h5 => exact .inr ⟨_, _, _, _, _, rfl, h1, .inr (.inr (.inr ⟨h2, h3, h4, _, rfl, h5⟩))⟩

def zeroT : Obj := .cells #[.int .i64 0, .slice none 0 0] 24 (0, 0)
/-- the region that follows both sides: operations 3 and 7 hand terms back, 8 and 9 make blocks -/
structure SvInv (F : Nat → Prop) (x0 y0 : T) (W6 : World) (D : Nat → Bool) (us : Nat → Value) (W : World) : Prop where
  below : Below W6.heap.size W6 W
  v3 : D 3 = true → VF F W x0 (us 3)
  v7 : D 7 = true → VF F W y0 (us 7)
  v8 : D 8 = true → ∃ b, us 8 = .pointer (some ⟨b, 0, none⟩) ∧ W6.heap.size ≤ b ∧ W.heap[b]? = some zeroT
  v9 : D 9 = true → ∃ b, us 9 = .pointer (some ⟨b, 0, none⟩) ∧ W6.heap.size ≤ b ∧ W.heap[b]? = some zeroT
  ne : D 8 = true → D 9 = true → us 8 ≠ us 9
theorem SvInv.start (F : Nat → Prop) (x0 y0 : T) (W6 : World) (us : Nat → Value) : SvInv F x0 y0 W6 (fun _ => false) us W6.drew :=
  ⟨(Below.refl _ _).drew, fun h => (by cases h), fun h => (by cases h), fun h => (by cases h), fun h => (by cases h), fun h => (by cases h)⟩
theorem SvInv.step {F : Nat → Prop} {x0 y0 : T} {W6 W W' : World} {D : Nat → Bool} {us : Nat → Value} (h : SvInv F x0 y0 W6 D us W) (hb : Below W.heap.size W W') (i : Nat) (v : Value) (h3 : i = 3 → VF F W' x0 v) (h7 : i = 7 → VF F W' y0 v)
    (h89 : i = 8 ∨ i = 9 → ∃ b, v = .pointer (some ⟨b, 0, none⟩) ∧ W.heap.size ≤ b ∧ W'.heap[b]? = some zeroT) (hD : D i = false) : SvInv F x0 y0 W6 (fun k => k == i || D k) (upd us i v) W' where
  below := h.below.trans (hb.mono h.below.size)
  v3 e := by
    by_cases c : 3 = i
    · subst c; simp only [upd, if_true]; exact h3 rfl
    · simp only [upd, if_neg c]; exact (h.v3 (by simpa [c] using e)).later hb
  v7 e := by
    by_cases c : 7 = i
    · subst c; simp only [upd, if_true]; exact h7 rfl
    · simp only [upd, if_neg c]; exact (h.v7 (by simpa [c] using e)).later hb
  v8 e := by
    by_cases c : 8 = i
    · subst c; simp only [upd, if_true]
      obtain ⟨b, e1, e2, e3⟩ := h89 (.inl rfl)
      exact ⟨b, e1, Nat.le_trans h.below.size e2, e3⟩
    · simp only [upd, if_neg c]
      obtain ⟨b, e1, e2, e3⟩ := h.v8 (by simpa [c] using e)
      exact ⟨b, e1, e2, (hb.block b (Array.getElem?_eq_some_iff.1 e3).1).trans e3⟩
  v9 e := by
    by_cases c : 9 = i
    · subst c; simp only [upd, if_true]
      obtain ⟨b, e1, e2, e3⟩ := h89 (.inr rfl)
      exact ⟨b, e1, Nat.le_trans h.below.size e2, e3⟩
    · simp only [upd, if_neg c]
      obtain ⟨b, e1, e2, e3⟩ := h.v9 (by simpa [c] using e)
      exact ⟨b, e1, e2, (hb.block b (Array.getElem?_eq_some_iff.1 e3).1).trans e3⟩
  ne e1 e2 := by
    by_cases c8 : 8 = i
    · subst c8
      obtain ⟨b, f1, f2, f3⟩ := h89 (.inl rfl)
      obtain ⟨b', g1, g2, g3⟩ := h.v9 (by simpa using e2)
      have := (Array.getElem?_eq_some_iff.1 g3).1
      simp only [upd, if_true]
      rw [if_neg (by decide), f1, g1]
      intro e; cases e; omega
    · by_cases c9 : 9 = i
      · subst c9
        obtain ⟨b, f1, f2, f3⟩ := h89 (.inr rfl)
        obtain ⟨b', g1, g2, g3⟩ := h.v8 (by simpa using e1)
        have := (Array.getElem?_eq_some_iff.1 g3).1
        simp only [upd, if_true]
        rw [if_neg (by decide), f1, g1]
        intro e; cases e; omega
      · simp only [upd, if_neg c8, if_neg c9]
        exact h.ne (by simpa [c8] using e1) (by simpa [c9] using e2)

/-- both sides, each in a block of its own -/
structure TwoT (F : Nat → Prop) (x0 y0 : T) (W6 : World) (b8 b9 : Nat) (W : World) : Prop where
  below : Below W6.heap.size W6 W
  l8 : W6.heap.size ≤ b8
  l9 : W6.heap.size ≤ b9
  ne : b8 ≠ b9
  h8 : ∃ y, W.heap[b8]? = some (.cells #[.int .i64 x0.head, y] 24 (0, 0)) ∧ IsF F W x0 (.int .i64 x0.head) y
  h9 : ∃ y, W.heap[b9]? = some (.cells #[.int .i64 y0.head, y] 24 (0, 0)) ∧ IsF F W y0 (.int .i64 y0.head) y

theorem TwoT.put {F : Nat → Prop} {x0 y0 : T} {W6 W : World} {b8 b9 : Nat} {p q p' q' sx sy : Value} (hb : Below W6.heap.size W6 W) (l8 : W6.heap.size ≤ b8) (l9 : W6.heap.size ≤ b9) (hne : b8 ≠ b9)
    (h8 : W.heap[b8]? = some (.cells #[p, q] 24 (0, 0))) (h9 : W.heap[b9]? = some (.cells #[p', q'] 24 (0, 0))) (hF : ∀ k, F k → k < W6.heap.size) (hx : IsF F W x0 (.int .i64 x0.head) sx) (hy : IsF F W y0 (.int .i64 y0.head) sy) :
    TwoT F x0 y0 W6 b8 b9 ((((W.setCell ⟨b8, 0, none⟩ (.int .i64 x0.head)).setCell ⟨b8, 1, none⟩ sx).setCell ⟨b9, 0, none⟩ (.int .i64 y0.head)).setCell ⟨b9, 1, none⟩ sy) := by
  have e8 : ((((W.setCell ⟨b8, 0, none⟩ (.int .i64 x0.head)).setCell ⟨b8, 1, none⟩ sx).setCell ⟨b9, 0, none⟩ (.int .i64 y0.head)).setCell ⟨b9, 1, none⟩ sy).heap[b8]? = some (.cells #[.int .i64 x0.head, sx] 24 (0, 0)) := by
    rw [Below.heap_setCell _ ⟨b9, 1, none⟩ _ _ hne, Below.heap_setCell _ ⟨b9, 0, none⟩ _ _ hne]
    exact heap_setCell_at (heap_setCell_at h8 0 (.int .i64 x0.head)) 1 sx
  have e9 : ((((W.setCell ⟨b8, 0, none⟩ (.int .i64 x0.head)).setCell ⟨b8, 1, none⟩ sx).setCell ⟨b9, 0, none⟩ (.int .i64 y0.head)).setCell ⟨b9, 1, none⟩ sy).heap[b9]? = some (.cells #[.int .i64 y0.head, sy] 24 (0, 0)) := by
    have := (Below.heap_setCell (W.setCell ⟨b8, 0, none⟩ (.int .i64 x0.head)) ⟨b8, 1, none⟩ sx b9 (Ne.symm hne)).trans ((Below.heap_setCell W ⟨b8, 0, none⟩ (.int .i64 x0.head) b9 (Ne.symm hne)).trans h9)
    exact heap_setCell_at (heap_setCell_at this 0 (.int .i64 y0.head)) 1 sy
  have hs8 : SameOn (fun k => k < W6.heap.size) W ((((W.setCell ⟨b8, 0, none⟩ (.int .i64 x0.head)).setCell ⟨b8, 1, none⟩ sx).setCell ⟨b9, 0, none⟩ (.int .i64 y0.head)).setCell ⟨b9, 1, none⟩ sy) :=
    (SameOn.set _ ⟨b8, 0, none⟩ _ (by simp; omega)).trans ((SameOn.set _ ⟨b8, 1, none⟩ _ (by simp; omega)).trans ((SameOn.set _ ⟨b9, 0, none⟩ _ (by simp; omega)).trans (SameOn.set _ ⟨b9, 1, none⟩ _ (by simp; omega))))
  exact ⟨hb.trans (hs8.below hb.size (fun _ h => h)), l8, l9, hne, ⟨_, e8, hx.same hs8 hF⟩, ⟨_, e9, hy.same hs8 hF⟩⟩

set_option maxRecDepth 100000 in
set_option maxHeartbeats 1000000 in
theorem usolve_calls (F : Nat → Prop) (sp mb : Nat) (s : Sub) (D : Int → Option Value) (la lb : List T) (va vb : Value) (r : Option Sub) (U : List T) (w : World) (hF : ∀ k, F k → k < w.heap.size) (hFm : ¬ F mb) (hspm : sp ≠ mb) (hS : Solv F w sp mb 256 s D) (hl : la.length = lb.length) (ha : Sl KT F w la va) (hb : Sl KT F w lb vb) (hrun : Run s (la.zip lb) r) (hU : RunI U la.length s (la.zip lb)) (hUz : la.length + 8 * U.length ≤ 1000000) :
    Calls Try.prog 19 #[.pointer (some ⟨sp, 0, none⟩), va, vb] w (USolvePost F sp mb r w) := by
  obtain ⟨K, hK⟩ := hrun.count
  obtain ⟨A, ca, rfl, -, -⟩ := ha.shapeT
  obtain ⟨B, cb, rfl, -, -⟩ := hb.shapeT
  have hsp : sp < w.heap.size := World.block_lt_of_cell? w _ hS.ptr
  have hmb := hS.map.lt
  have HS := Lib.hid hS
  have HA := Lib.hid ha
  have HB := Lib.hid hb
  have HF := Lib.hid hF
  have HFM := Lib.hid hFm
  have HSPM := Lib.hid hspm
  have HL := Lib.hid hl
  have HK := Lib.hid hK
  have HU := Lib.hid hU
  have HUZ := Lib.hid hUz
  have HSP := Lib.hid hsp
  have HMB := Lib.hid hmb
  clear hS ha hb hF hFm hspm hl hK hU hUz hrun hsp hmb
  go_enter Try.func19, Try.ntmps19
  go_wp2_with fail
  have hb0 : Below w.heap.size w (w.alloc (.cells #[.slice none 0 0] 68)) := (Below.refl _ _).alloc (Nat.le_refl _) _
  have hn0 := World.alloc_heap_new w (.cells #[.slice none 0 0] 68)
  have hst0 : StkB F w.heap.size w.heap.size (w.alloc (.cells #[.slice none 0 0] 68)) (.slice none 0 0) [] :=
    ⟨cell_of_block hn0 rfl, frozen_of_block hn0 0, Own.nil _ _ _ _ _, by simp [Value.ownBlock]⟩
  refine (putc_calls F w.heap.size w.heap.size la lb _ _ _ [] _ HF.out (fun h => by have := HF.out _ h; omega) (by simp) HL.out (HA.out.later hb0) (HB.out.later hb0) hst0 ?_).mono ?_
  · have := HUZ.out; simp; omega
  rintro e w1 ⟨⟨rr, rfl⟩, v1, hst1, hs1, hob1⟩
  have hs0 : SameOn (fun k => k ≠ mb) w w1 := (SameOn.of_new hb0).join hs1 (fun k hk _ => ⟨by omega, by simp [Value.ownBlock]⟩)
  have HR0 : Hid (SolveR F sp mb w.heap.size w U la.length s (la.zip lb) v1 w1) := by
    have : SolveR F sp mb w.heap.size w U la.length s (la.zip lb) v1 w1 :=
      ⟨⟨D, (HS.out.later hb0).same hs1 (fun k hk => ⟨by have := HF.out k hk; omega, by simp [Value.ownBlock]⟩) ⟨by have := HSP.out; omega, by simp [Value.ownBlock]⟩ ⟨by have := HMB.out; omega, by simp [Value.ownBlock]⟩⟩, HU.out, hst1, hs0, Nat.le_refl _⟩
    exact this
  clear hb0 hn0 hst0 hst1 hs1 hob1 hs0
  go_wp2_with fail
  go_loopg [] (K + 1) (fun k wr => ∃ (kk : Nat) (s : Sub) (l : List (T × T)) (v : Value), kk + 1 = k ∧ RunK kk s l r ∧ SolveR F sp mb w.heap.size w U la.length s l v wr)
  case atStart => exact ⟨K, s, _, v1, rfl, HK.out, HR0.out⟩
  case round =>
    obtain ⟨kk, s1, l, v, hkk, hrk, hR⟩ := hrel
    have HG := Lib.hid hkk
    clear hkk HR0
    rcases hrk.inv with ⟨rfl, rfl⟩ | ⟨a, b, x, y, l1, rfl, hp2, hst⟩
    · have hcs := hR.stk.cell
      obtain ⟨Av, cv, rfl⟩ := hR.stk.own.shape
      have hn : ([] : List (T × T)).reverse.length = 0 := rfl
      rw [hn] at hcs
      have HR := Lib.hid hR
      clear hR hrk
      go_wp2
      go_ret
      exact ⟨rfl, fun s' e => by cases e; exact HR.out.solv, HR.out.same⟩
    · have HR := Lib.hid hR
      have hlr : l1.length + 1 ≤ 1000000 := by have h1 := hR.run.length; have h2 := HUZ.out; have e : ((a, b) :: l1).length = l1.length + 1 := rfl; omega
      obtain ⟨hc, hf, ho, hap⟩ := hR.stk
      rw [List.reverse_cons] at ho
      obtain ⟨Av, cv, rfl⟩ := ho.shape
      obtain ⟨g, vs, hn, rfl, hnc, hg1, hg2, ⟨xa, ya, xb, yb, rfl, hxa, hxb⟩, hcs⟩ := ho.top
      have kc0 := hcs 0 (by simp)
      have kc1 := hcs 1 (by simp)
      have kc2 := hcs 2 (by simp)
      have kc3 := hcs 3 (by simp)
      obtain ⟨rfl, hia, hsa⟩ := hxa.parts
      obtain ⟨Aa, cca, rfl, -, -⟩ := hsa.shapeT
      obtain ⟨rfl, hib, hsb⟩ := hxb.parts
      obtain ⟨Ab, ccb, rfl, -, -⟩ := hsb.shapeT
      have e4 : (KTT).sz = 4 := rfl
      rw [e4] at kc0 kc1 kc2 kc3
      simp only [List.getElem_cons_zero, List.getElem_cons_succ, Nat.add_zero, List.length_reverse] at kc0 kc1 kc2 kc3
      have hlen : (l1.reverse ++ [(a, b)]).length = l1.length + 1 := by simp
      rw [hlen] at hc hnc ho
      have HPOP : Hid (Own KTT 70 F w.heap.size wr (.slice (some ⟨g, 0, none⟩) l1.length cv) l1.reverse) := by
        have := ho.pop; rwa [List.length_reverse] at this
      have HXA := Lib.hid hxa
      have HXB := Lib.hid hxb
      have HST := Lib.hid hst
      have HP2 := Lib.hid hp2
      replace hap : ¬ g = w.heap.size := fun e => hap (by rw [e]; rfl)
      have hgs : w.heap.size < wr.heap.size := World.block_lt_of_cell? wr _ hc
      clear hcs hn hlen hxa hxb hsa hsb ho hR e4 hst hp2 hrk
      go_upto_region 7 with fail
      have h6s : SameOn (fun k => k ≠ w.heap.size) wr ((wr.setCell ⟨w.heap.size, 0, none⟩ (.slice (some ⟨g, 0, none⟩) l1.length cv)).alloc (.cells #[.int .i64 a.head, .slice Aa a.args.length cca, .int .i64 b.head, .slice Ab b.args.length ccb] 70)) := (SameOn.set _ ⟨w.heap.size, 0, none⟩ _ (by simp)).trans (.of_new ((Below.refl _ _).alloc (Nat.le_refl _) _))
      have hze : (wr.setCell ⟨w.heap.size, 0, none⟩ (.slice (some ⟨g, 0, none⟩) l1.length cv)).heap.size = wr.heap.size := by simp [World.setCell]
      have h6c : ((wr.setCell ⟨w.heap.size, 0, none⟩ (.slice (some ⟨g, 0, none⟩) l1.length cv)).alloc (.cells #[.int .i64 a.head, .slice Aa a.args.length cca, .int .i64 b.head, .slice Ab b.args.length ccb] 70)).cell? ⟨w.heap.size, 0, none⟩ = some (.slice (some ⟨g, 0, none⟩) l1.length cv) := cell_old _ (World.cell?_setCell_same' _ _ _ (by rw [hc]; rfl))
      have h6f : ((wr.setCell ⟨w.heap.size, 0, none⟩ (.slice (some ⟨g, 0, none⟩) l1.length cv)).alloc (.cells #[.int .i64 a.head, .slice Aa a.args.length cca, .int .i64 b.head, .slice Ab b.args.length ccb] 70)).frozen? ⟨w.heap.size, 0, none⟩ = false := by
        rw [World.frozen?_of_block (a := ⟨w.heap.size, 0, none⟩) (Below.heap_alloc _ _ _ (by rw [hze]; exact hgs)), World.frozen?_setCell]; exact hf
      have h6n : ((wr.setCell ⟨w.heap.size, 0, none⟩ (.slice (some ⟨g, 0, none⟩) l1.length cv)).alloc (.cells #[.int .i64 a.head, .slice Aa a.args.length cca, .int .i64 b.head, .slice Ab b.args.length ccb] 70)).heap[wr.heap.size]? = some (.cells #[.int .i64 a.head, .slice Aa a.args.length cca, .int .i64 b.head, .slice Ab b.args.length ccb] 70) := by
        have := World.alloc_heap_new (wr.setCell ⟨w.heap.size, 0, none⟩ (.slice (some ⟨g, 0, none⟩) l1.length cv)) (.cells #[.int .i64 a.head, .slice Aa a.args.length cca, .int .i64 b.head, .slice Ab b.args.length ccb] 70)
        rwa [hze] at this
      have h6z : ((wr.setCell ⟨w.heap.size, 0, none⟩ (.slice (some ⟨g, 0, none⟩) l1.length cv)).alloc (.cells #[.int .i64 a.head, .slice Aa a.args.length cca, .int .i64 b.head, .slice Ab b.args.length ccb] 70)).heap.size = wr.heap.size + 1 := by rw [World.size_alloc, hze]
      generalize ((wr.setCell ⟨w.heap.size, 0, none⟩ (.slice (some ⟨g, 0, none⟩) l1.length cv)).alloc (.cells #[.int .i64 a.head, .slice Aa a.args.length cca, .int .i64 b.head, .slice Ab b.args.length ccb] 70)) = W6 at *
      have hFsb : ∀ k, F k → k ≠ w.heap.size := fun k hk => by have := HF.out k hk; omega
      have hst6 : StkB F w.heap.size w.heap.size W6 (.slice (some ⟨g, 0, none⟩) l1.length cv) l1.reverse :=
        ⟨h6c, h6f, HPOP.out.same h6s hFsb (fun k e => by cases e; exact hap), by simp only [Value.ownBlock, ne_eq, Option.some.injEq]; exact hap⟩
      obtain ⟨D1, hD1⟩ := HR.out.solv
      have hspw := HSP.out
      have hmbw := HMB.out
      have hs6 := hD1.same h6s hFsb (by omega) (by omega)
      have hxa6 : IsF F W6 a (.int .i64 a.head) (.slice Aa a.args.length cca) := IsF.mono (fun _ h => h.1) (HXA.out.same h6s (fun k hk => hFsb k hk.1))
      have hxb6 : IsF F W6 b (.int .i64 b.head) (.slice Ab b.args.length ccb) := IsF.mono (fun _ h => h.1) (HXB.out.same h6s (fun k hk => hFsb k hk.1))
      have hsame6 : SameOn (fun k => k ≠ mb) w W6 := HR.out.same.join h6s (fun k hk _ => by omega)
      obtain ⟨x0, y0, hw1, hw2, hsw⟩ := HP2.out
      have k60 := cell_of_block h6n (j := 0) (v := .int .i64 a.head) rfl
      have k61 := cell_of_block h6n (j := 1) (v := .slice Aa a.args.length cca) rfl
      have k62 := cell_of_block h6n (j := 2) (v := .int .i64 b.head) rfl
      have k63 := cell_of_block h6n (j := 3) (v := .slice Ab b.args.length ccb) rfl
      have HST6 := Lib.hid hst6
      have HS6 := Lib.hid hs6
      have HXA6 := Lib.hid hxa6
      have HXB6 := Lib.hid hxb6
      have HSM6 := Lib.hid hsame6
      have HW1 := Lib.hid hw1
      have HW2 := Lib.hid hw2
      have HSW := Lib.hid hsw
      have HZ6 := Lib.hid h6z
      clear h6s hze h6c h6f h6n h6z hst6 hD1 hs6 hxa6 hxb6 hsame6 hw1 hw2 hsw hc hf kc0 kc1 kc2 kc3 hFsb
      go_cut [10, 11] (fun p q wc => ∃ b8 b9, p = .pointer (some ⟨b8, 0, none⟩) ∧ q = .pointer (some ⟨b9, 0, none⟩) ∧ TwoT F x0 y0 W6 b8 b9 wc)
      case first =>
        refine wp_invJ 10 99 (fun ix u => match ix with | 0 => u = .pointer (some ⟨sp, 0, none⟩) | 1 => u = .pointer (some ⟨wr.heap.size, 0, none⟩) | 2 => u = .agg #[.int .i64 a.head, .slice Aa a.args.length cca] | 4 => u = .pointer (some ⟨sp, 0, none⟩) | 5 => u = .pointer (some ⟨wr.heap.size, 2, none⟩) | 6 => u = .agg #[.int .i64 b.head, .slice Ab b.args.length ccb] | _ => True) (SvInv F x0 y0 W6) (by kernel_rfl) rfl (by decide +kernel) (SvInv.start F x0 y0 W6) ?_ ?_
        · refine ⟨?_, ⟨?_, ⟨?_, ⟨?_, ⟨?_, ⟨?_, ⟨?_, ⟨?_, ⟨?_, ⟨?_, trivial⟩⟩⟩⟩⟩⟩⟩⟩⟩⟩
          · intro ρ W D us hI hcl hDi hdep hc hg hf hbase hdeps
            have r0 := hbase 0 (by kernel_rfl)
            clear hbase hdeps
            go_simp
            exact ⟨hI.step (Below.refl _ _) _ _ (fun h => by cases h) (fun h => by cases h) (fun h => by rcases h with h | h <;> cases h) hDi, rfl⟩
          · intro ρ W D us hI hcl hDi hdep hc hg hf hbase hdeps
            have r9 := hbase 9 (by kernel_rfl)
            clear hbase hdeps
            go_simp
            exact ⟨hI.step (Below.refl _ _) _ _ (fun h => by cases h) (fun h => by cases h) (fun h => by rcases h with h | h <;> cases h) hDi, rfl⟩
          · intro ρ W D us hI hcl hDi hdep hc hg hf hbase hdeps
            have r32 : ρ (.tmp 32) = .pointer (some ⟨wr.heap.size, 0, none⟩) := (hdeps 1 _ 32 (by kernel_rfl) rfl rfl).1
            clear hbase hdeps
            have kk0 := cell_kept hI.below k60
            have kk1 := cell_kept hI.below k61
            go_simp
            exact ⟨hI.step (Below.refl _ _) _ _ (fun h => by cases h) (fun h => by cases h) (fun h => by rcases h with h | h <;> cases h) hDi, rfl⟩
          · intro ρ W D us hI hcl hDi hdep hc hg hf hbase hdeps
            have r31 : ρ (.tmp 31) = .pointer (some ⟨sp, 0, none⟩) := (hdeps 0 _ 31 (by kernel_rfl) rfl rfl).1
            have r33 : ρ (.tmp 33) = .agg #[.int .i64 a.head, .slice Aa a.args.length cca] := (hdeps 2 _ 33 (by kernel_rfl) rfl rfl).1
            clear hbase hdeps
            go_simp
            exact (at_calls F sp mb 256 s1 D1 a x0 _ W (HS6.out.later hI.below) (VF.of_ (HXA6.out.later hI.below)) HW1.out).mono (fun e w' ⟨v, e1, hv, hb⟩ => ⟨v, e1, hI.step hb 3 v (fun _ => hv) (fun h => by cases h) (fun h => by rcases h with h | h <;> cases h) hDi⟩)
          · intro ρ W D us hI hcl hDi hdep hc hg hf hbase hdeps
            have r0 := hbase 0 (by kernel_rfl)
            clear hbase hdeps
            go_simp
            exact ⟨hI.step (Below.refl _ _) _ _ (fun h => by cases h) (fun h => by cases h) (fun h => by rcases h with h | h <;> cases h) hDi, rfl⟩
          · intro ρ W D us hI hcl hDi hdep hc hg hf hbase hdeps
            have r9 := hbase 9 (by kernel_rfl)
            clear hbase hdeps
            go_simp
            exact ⟨hI.step (Below.refl _ _) _ _ (fun h => by cases h) (fun h => by cases h) (fun h => by rcases h with h | h <;> cases h) hDi, rfl⟩
          · intro ρ W D us hI hcl hDi hdep hc hg hf hbase hdeps
            have r36 : ρ (.tmp 36) = .pointer (some ⟨wr.heap.size, 2, none⟩) := (hdeps 5 _ 36 (by kernel_rfl) rfl rfl).1
            clear hbase hdeps
            have kk0 := cell_kept hI.below k62
            have kk1 := cell_kept hI.below k63
            go_simp
            exact ⟨hI.step (Below.refl _ _) _ _ (fun h => by cases h) (fun h => by cases h) (fun h => by rcases h with h | h <;> cases h) hDi, rfl⟩
          · intro ρ W D us hI hcl hDi hdep hc hg hf hbase hdeps
            have r35 : ρ (.tmp 35) = .pointer (some ⟨sp, 0, none⟩) := (hdeps 4 _ 35 (by kernel_rfl) rfl rfl).1
            have r37 : ρ (.tmp 37) = .agg #[.int .i64 b.head, .slice Ab b.args.length ccb] := (hdeps 6 _ 37 (by kernel_rfl) rfl rfl).1
            clear hbase hdeps
            go_simp
            exact (at_calls F sp mb 256 s1 D1 b y0 _ W (HS6.out.later hI.below) (VF.of_ (HXB6.out.later hI.below)) HW2.out).mono (fun e w' ⟨v, e1, hv, hb⟩ => ⟨v, e1, hI.step hb 7 v (fun h => by cases h) (fun _ => hv) (fun h => by rcases h with h | h <;> cases h) hDi⟩)
          · intro ρ W D us hI hcl hDi hdep hc hg hf hbase hdeps
            clear hbase hdeps
            go_simp
            exact hI.step ((Below.refl _ _).alloc (Nat.le_refl _) _) 8 _ (fun h => by cases h) (fun h => by cases h) (fun _ => ⟨_, rfl, Nat.le_refl _, World.alloc_heap_new _ _⟩) hDi
          · intro ρ W D us hI hcl hDi hdep hc hg hf hbase hdeps
            clear hbase hdeps
            go_simp
            exact hI.step ((Below.refl _ _).alloc (Nat.le_refl _) _) 9 _ (fun h => by cases h) (fun h => by cases h) (fun _ => ⟨_, rfl, Nat.le_refl _, World.alloc_heap_new _ _⟩) hDi
        · intro us W7 hW7 hus
          have hu0 : us 0 = .pointer (some ⟨sp, 0, none⟩) := hus 0 _ (by decide) rfl rfl
          have hu1 : us 1 = .pointer (some ⟨wr.heap.size, 0, none⟩) := hus 1 _ (by decide) rfl rfl
          have hu2 : us 2 = .agg #[.int .i64 a.head, .slice Aa a.args.length cca] := hus 2 _ (by decide) rfl rfl
          have hu4 : us 4 = .pointer (some ⟨sp, 0, none⟩) := hus 4 _ (by decide) rfl rfl
          have hu5 : us 5 = .pointer (some ⟨wr.heap.size, 2, none⟩) := hus 5 _ (by decide) rfl rfl
          have hu6 : us 6 = .agg #[.int .i64 b.head, .slice Ab b.args.length ccb] := hus 6 _ (by decide) rfl rfl
          clear hus
          simp only [List.drop_succ_cons, List.drop_zero, List.take_succ_cons, List.take_zero, fill, Act.put, List.setIfInBounds_toArray, List.set_cons_succ, List.set_cons_zero, hu0, hu1, hu2, hu4, hu5, hu6]
          clear hu0 hu1 hu2 hu4 hu5 hu6
          obtain ⟨b8, e8, hb8, hh8⟩ := hW7.v8 rfl
          obtain ⟨b9, e9, hb9, hh9⟩ := hW7.v9 rfl
          obtain ⟨xv, xw, e3, hx0⟩ := hW7.v3 rfl
          obtain ⟨yv, yw, e7, hy0⟩ := hW7.v7 rfl
          have hne : b8 ≠ b9 := fun e => hW7.ne rfl rfl (by rw [e8, e9, e])
          obtain ⟨rfl, hix, hsx⟩ := hx0.parts
          obtain ⟨Ax, cx, rfl, -, -⟩ := hsx.shapeT
          obtain ⟨rfl, hiy, hsy⟩ := hy0.parts
          obtain ⟨Ay, cy, rfl, -, -⟩ := hsy.shapeT
          have hbw := hW7.below
          rw [e8, e9, e3, e7]
          clear e8 e9 e3 e7
          have k80 := cell_of_block hh8 (j := 0) (v := .int .i64 0) rfl
          have k81 := cell_of_block hh8 (j := 1) (v := .slice none 0 0) rfl
          have k8f0 := frozen_of_block hh8 0
          have k8f1 := frozen_of_block hh8 1
          have k90 := cell_of_block hh9 (j := 0) (v := .int .i64 0) rfl
          have k91 := cell_of_block hh9 (j := 1) (v := .slice none 0 0) rfl
          have k9f0 := frozen_of_block hh9 0
          have k9f1 := frozen_of_block hh9 1
          have HH8 := Lib.hid hh8
          have HH9 := Lib.hid hh9
          have HX0 := Lib.hid hx0
          have HY0 := Lib.hid hy0
          have HBW := Lib.hid hbw
          clear hW7 hh8 hh9 hx0 hy0 hsx hsy hbw k60 k61 k62 k63
          go_wp2
          have hFz : ∀ k, F k → k < W6.heap.size := fun k hk => by have := HF.out k hk; have := HZ6.out; omega
          go_meet
          exact ⟨b8, b9, rfl, rfl, TwoT.put HBW.out hb8 hb9 hne HH8.out HH9.out hFz HX0.out HY0.out⟩
      case rest =>
        obtain ⟨b8, b9, rfl, rfl, hT⟩ := hcut
        go_step
        go_step
        obtain ⟨W8, rfl⟩ : ∃ W8, W8 = wc := ⟨_, rfl⟩
        clear k60 k61 k62 k63
        have HT8 := Lib.hid hT
        obtain ⟨sx, e8, hx0⟩ := hT.h8
        obtain ⟨sy, e9, hy0⟩ := hT.h9
        obtain ⟨-, hix, hsx⟩ := hx0.parts
        obtain ⟨Ax, cx, rfl, -, -⟩ := hsx.shapeT
        obtain ⟨-, hiy, hsy⟩ := hy0.parts
        obtain ⟨Ay, cy, rfl, -, -⟩ := hsy.shapeT
        have hne := hT.ne
        clear hT hsx hsy
        go_cut [] (fun wc => TwoT F x y W6 b8 b9 wc)
        case first =>
          have k80 := cell_of_block e8 (j := 0) (v := .int .i64 x0.head) rfl
          have k81 := cell_of_block e8 (j := 1) (v := .slice Ax x0.args.length cx) rfl
          have k8f0 := frozen_of_block e8 0
          have k8f1 := frozen_of_block e8 1
          have k90 := cell_of_block e9 (j := 0) (v := .int .i64 y0.head) rfl
          have k91 := cell_of_block e9 (j := 1) (v := .slice Ay y0.args.length cy) rfl
          have k9f0 := frozen_of_block e9 0
          have k9f1 := frozen_of_block e9 1
          have HH8 := Lib.hid e8
          have HH9 := Lib.hid e9
          have HX0 := Lib.hid hx0
          have HY0 := Lib.hid hy0
          clear e8 e9 hx0 hy0
          by_cases c1 : y0.head < 0
          · by_cases c2 : 0 ≤ x0.head
            ·
              have hxy : y0 = x ∧ x0 = y := by
                have := HSW.out
                unfold sw at this
                rw [if_pos (by omega)] at this
                cases this; exact ⟨rfl, rfl⟩
              have HXY := Lib.hid hxy
              clear hxy
              go_wp2
              go_meet
              obtain ⟨rfl, rfl⟩ := HXY.out
              exact TwoT.put HT8.out.below HT8.out.l8 HT8.out.l9 HT8.out.ne HH8.out HH9.out (fun k hk => by have := HF.out k hk; have := HZ6.out; omega) HY0.out HX0.out
            · by_cases c3 : y0.head < x0.head
              ·
                have hxy : y0 = x ∧ x0 = y := by
                  have := HSW.out
                  unfold sw at this
                  rw [if_pos (by omega)] at this
                  cases this; exact ⟨rfl, rfl⟩
                have HXY := Lib.hid hxy
                clear hxy
                go_wp2
                go_meet
                obtain ⟨rfl, rfl⟩ := HXY.out
                exact TwoT.put HT8.out.below HT8.out.l8 HT8.out.l9 HT8.out.ne HH8.out HH9.out (fun k hk => by have := HF.out k hk; have := HZ6.out; omega) HY0.out HX0.out
              ·
                have hxy : x0 = x ∧ y0 = y := by
                  have := HSW.out
                  unfold sw at this
                  rw [if_neg (by omega)] at this
                  cases this; exact ⟨rfl, rfl⟩
                have HXY := Lib.hid hxy
                clear hxy
                go_wp2
                go_meet
                obtain ⟨rfl, rfl⟩ := HXY.out
                exact HT8.out
          ·
            have hxy : x0 = x ∧ y0 = y := by
              have := HSW.out
              unfold sw at this
              rw [if_neg (by omega)] at this
              cases this; exact ⟨rfl, rfl⟩
            have HXY := Lib.hid hxy
            clear hxy
            go_wp2
            go_meet
            obtain ⟨rfl, rfl⟩ := HXY.out
            exact HT8.out
        case rest =>
          have HT9 := Lib.hid hcut
          clear e8 e9 hx0 hy0 hix hiy
          obtain ⟨sx, e8, hx⟩ := hcut.h8
          obtain ⟨sy, e9, hy⟩ := hcut.h9
          obtain ⟨-, hix, hsx⟩ := hx.parts
          obtain ⟨Ax, cx, rfl, -, -⟩ := hsx.shapeT
          obtain ⟨-, hiy, hsy⟩ := hy.parts
          obtain ⟨Ay, cy, rfl, -, -⟩ := hsy.shapeT
          have hz69 := hcut.below.size
          have k80 := cell_of_block e8 (j := 0) (v := .int .i64 x.head) rfl
          have k81 := cell_of_block e8 (j := 1) (v := .slice Ax x.args.length cx) rfl
          have k90 := cell_of_block e9 (j := 0) (v := .int .i64 y.head) rfl
          have k91 := cell_of_block e9 (j := 1) (v := .slice Ay y.args.length cy) rfl
          have hb9 := hcut.below
          have hst9 := HST6.out.same (S := fun _ => True) (.of_new hb9) (fun _ _ => trivial) trivial (fun _ _ => trivial)
          have hs9 := HS6.out.later hb9
          have hsm9 : SameOn (fun k => k ≠ mb) w wc := HSM6.out.trans (.of_new hb9)
          have HST9 := Lib.hid hst9
          have HS9 := Lib.hid hs9
          have HSM9 := Lib.hid hsm9
          have HX := Lib.hid hx
          have HY := Lib.hid hy
          have HSX := Lib.hid hsx
          have HSY := Lib.hid hsy
          clear hx hy e8 e9 hsx hsy hcut hb9 hst9 hs9 hsm9
          rcases HST.out with ⟨h0, hxy, k', hk, hrun⟩ | ⟨h0, hxy, y', hfy, ⟨hhas, hr⟩ | ⟨hhas, k', hk, hrun⟩⟩ | ⟨h0, hxy, hr⟩ | ⟨h0, hxy, hxl, k', hk, hrun⟩
          · have hxb : (x.head == y.head) = true := by simp [hxy]
            have HRUN := Lib.hid hrun
            have HKK := Lib.hid hk
            have HXY := Lib.hid hxy
            clear hrun hk hxy
            go_wp2
            go_roundg (k' + 1)
            case rel => exact ⟨k', s1, l1, _, rfl, HRUN.out, ⟨⟨D1, HS9.out⟩, HR.out.run.tail, HST9.out, HSM9.out, Nat.le_refl _⟩⟩
            case measure => have := HG.out; have := HKK.out; omega
          ·
            have HQ := Lib.hid hr
            clear hr
            have hxb : (x.head == y.head) = false := by simp [hxy]
            have hmem := HP2.out.mem HR.out.run.cl (HR.out.run.mem _ (.head _)).1 (HR.out.run.mem _ (.head _)).2
            have hlo := HR.out.run.cl.low x hmem.1 h0
            have hbd := bind_calls F sp mb 256 s1 D1 y y' (-1 - x.head) (.slice Ay y.args.length cy) wc (fun k hk => by have := HF.out k hk; have := HZ6.out; omega) HFM.out HS9.out HY.out hfy (HP2.out.free h0) (fun k u e => (HR.out.run.cl.vals k u e).2) (by omega) (by omega) HSPM.out
            rw [hhas] at hbd
            have HBD := Lib.hid hbd
            have HFY := Lib.hid hfy
            have HHAS := Lib.hid hhas
            clear hbd hfy hhas hmem hxy
            go_wp2_with fail
            refine HBD.out.mono ?_
            rintro e w' ⟨rfl, hpost⟩
            have HPOST := Lib.hid hpost
            clear hpost k80 k81 k90 k91
            go_wp2
            go_ret
            rw [HQ.out]
            exact ⟨rfl, fun _ e => (by cases e), HSM9.out.trans (.of_new HPOST.out)⟩
          · have HRUN := Lib.hid hrun
            have HKK := Lib.hid hk
            clear hrun hk
            have hxb : (x.head == y.head) = false := by simp [hxy]
            have hmem := HP2.out.mem HR.out.run.cl (HR.out.run.mem _ (.head _)).1 (HR.out.run.mem _ (.head _)).2
            have hlo := HR.out.run.cl.low x hmem.1 h0
            have hbd := bind_calls F sp mb 256 s1 D1 y y' (-1 - x.head) (.slice Ay y.args.length cy) wc (fun k hk => by have := HF.out k hk; have := HZ6.out; omega) HFM.out HS9.out HY.out hfy (HP2.out.free h0) (fun k u e => (HR.out.run.cl.vals k u e).2) (by omega) (by omega) HSPM.out
            rw [hhas] at hbd
            have HBD := Lib.hid hbd
            have HFY := Lib.hid hfy
            have HHAS := Lib.hid hhas
            clear hbd hfy hhas hmem hxy
            go_wp2_with fail
            refine HBD.out.mono ?_
            rintro e w' ⟨rfl, hpost⟩
            have HPOST := Lib.hid hpost
            clear hpost k80 k81 k90 k91
            go_wp2
            obtain ⟨hS', hsm'⟩ : Solv F w' sp mb 256 (s1.set (-1 - x.head) y) (fun j => if j = -1 - x.head then some (.agg #[.int .i64 y.head, .slice Ay y.args.length cy]) else D1 j) ∧ SameOn (fun k => k ≠ mb) wc w' := HPOST.out
            go_roundg (k' + 1)
            case rel =>
              refine ⟨k', _, l1, _, rfl, HRUN.out, ⟨⟨_, hS'⟩, HR.out.run.bind HP2.out h0 HFY.out HHAS.out, HST9.out.same hsm' (fun k hk e => HFM.out (e ▸ hk)) (by omega) (fun k e => ?_), HSM9.out.trans hsm', Nat.le_refl _⟩⟩
              have hk' : k = g := by cases e; rfl
              omega
            case measure => have := HG.out; have := HKK.out; omega
          · have HQ := Lib.hid hr
            clear hr
            have h0' : ¬ x.head < 0 := by omega
            by_cases hde : x.head = y.head
            · have hdl : ¬ x.args.length = y.args.length := by
                rcases hxy with h | h
                · exact absurd hde h
                · exact h
              have hbe : (x.head != y.head) = false := by simp [hde]
              have hbe' : (x.head == y.head) = true := by simp [hde]
              have hdl' : ¬ (x.args.length : Int) = (y.args.length : Int) := by omega
              clear hde hxy hdl
              go_wp2
              go_ret
              rw [HQ.out]
              exact ⟨rfl, fun _ e => (by cases e), HSM9.out⟩
            · have hbe : (x.head != y.head) = true := by simp [hde]
              have hbe' : (x.head == y.head) = false := by simp [hde]
              clear hde hxy
              go_wp2
              go_ret
              rw [HQ.out]
              exact ⟨rfl, fun _ e => (by cases e), HSM9.out⟩
          · have h0' : ¬ x.head < 0 := by omega
            have hbe : (x.head != y.head) = false := by simp [hxy]
            have hbe' : (x.head == y.head) = true := by simp [hxy]
            have HRUN := Lib.hid hrun
            have HKK := Lib.hid hk
            have HXL := Lib.hid hxl
            have hle : ((x.args.length : Int) != (y.args.length : Int)) = false := by simp [hxl]
            have hmem := HP2.out.mem HR.out.run.cl (HR.out.run.mem _ (.head _)).1 (HR.out.run.mem _ (.head _)).2
            have har := HR.out.run.cl.ar x hmem.1
            clear hrun hk hxy hxl hmem
            go_wp2_with fail
            refine (putc_calls F w.heap.size w.heap.size x.args y.args _ _ _ l1.reverse _ HF.out (fun h => by have := HF.out _ h; omega) (by have := HZ6.out; omega) HXL.out HSX.out HSY.out HST9.out (by rw [List.length_reverse]; omega)).mono ?_
            rintro e w' ⟨⟨rr', rfl⟩, v', hst', hs', hob'⟩
            have HST' := Lib.hid hst'
            have HS' := Lib.hid hs'
            clear hst' hs' hob' k80 k81 k90 k91 hle
            go_wp2
            have hgk : ∀ k, (Value.slice (some ⟨g, 0, none⟩) l1.length cv).ownBlock = some k → k = g := fun k e => by cases e; rfl
            go_roundg (k' + 1)
            case rel =>
              refine ⟨k', s1, x.args.zip y.args ++ l1, v', rfl, HRUN.out, ⟨⟨D1, HS9.out.same HS'.out (fun k hk => ⟨by have := HF.out k hk; omega, fun e => by have := hgk k e; have := HF.out k hk; omega⟩) ⟨by omega, fun e => by have := hgk _ e; omega⟩ ⟨by omega, fun e => by have := hgk _ e; omega⟩⟩, HR.out.run.node HP2.out h0, ?_, HSM9.out.join HS'.out (fun k hk _ => ⟨by omega, fun e => by have := hgk k e; omega⟩), Nat.le_refl _⟩⟩
              rw [List.reverse_append]; exact HST'.out
            case measure => have := HG.out; have := HKK.out; omega
end Go.Proofs.Ytokhnlhffnidmaa
