/- Loops over a function, whose rounds never leave early: one law, and the rounds' regions walked as everywhere. -/
import Derived.Test.YtokhnlhffnidmaaMixP
import Derived.RangeFuncNested
import Derived.OrdersIn
namespace Go.Proofs.Ytokhnlhffnidmaa
open Go.RowKit Elen

/-! ### what holds everywhere holds in a round -/
section
variable {P : Program} {ops : Array Oper} {Q : Exit → Act → World → Prop} {l n : Nat}

theorem upon_in {o : Oper} {a : Act} {next : Act → World → Prop} : ∀ {r : Result Next}, o.upon P a next Q r → o.uponIn (Fence.wide.inRound l) n P a next Q r := by
  intro r h
  have hd : (Fence.wide.inRound l).depth.isSome = true → 1 ≤ n := fun h => by simp [Fence.wide] at h
  cases r with
  | ok x w' =>
    cases x with
    | value v => exact h
    | skip => exact h
    | defer d => exact h
    | enter f args => exact ⟨hd, callsIn_wide.2 h⟩
    | row r args =>
      refine ⟨hd, fun c cs _ => ?_⟩
      obtain ⟨v, w'', h1, h2⟩ := h c cs
      exact ⟨v, w'', h1, stepsIn_wide.2 h2⟩
    | _ => exact h.elim
  | halt x w' =>
    cases x with
    | panic v => exact h
    | _ => exact h.elim

/-- no operation puts a call off -/
def noDefer (ops : List Oper) : Bool := ops.all fun o => match o.op with | .defer _ => false | _ => true
theorem noDefer_mem {ops : List Oper} (h : noDefer ops = true) {o : Oper} (ho : o ∈ ops) : ∀ c, o.op ≠ .defer c := by
  intro c e
  have := List.all_eq_true.1 h o ho
  simp only [e] at this
  cases this

theorem wp_in {o : Oper} {a : Act} {w : World} {next : Act → World → Prop} (_hL : ¬ LetsOut Q) (ho : ∀ c, o.op ≠ .defer c) (h : o.wp P a w next Q) : o.wpIn (Fence.wide.inRound l) n P a w next Q := by
  refine ⟨fun _ _ => trivial, ?_⟩
  rw [Fence.inRound_round, Oper.semAt_eq _ _ _ ho]
  exact upon_in h

theorem list_in (hL : ¬ LetsOut Q) : ∀ (r : List Oper) (a : Act) (w : World), noDefer r = true → wpList P ops Q r a w → wpListIn (Fence.wide.inRound l) n P ops Q r a w := by
  intro r
  induction r with
  | nil => intro a w _ h; exact h
  | cons o r ih =>
    intro a w hn h
    have hr : noDefer r = true := by simp only [noDefer, List.all_cons, Bool.and_eq_true] at hn; exact hn.2
    simp only [wpList, wpListIn] at h ⊢
    by_cases c : Region.wanted o (yielded ops a.tmps) = true
    · rw [if_pos c] at h ⊢
      have h := h.resolve_right (fun h => hL h.2)
      exact Oper.wpIn_mono (fun a w h => ih a w hr h) (wp_in hL (noDefer_mem hn (.head _)) h)
    · rw [if_neg c] at h ⊢
      exact ⟨fun _ _ => trivial, ih _ _ hr h⟩

theorem any_in {md : Region.Mode} (hL : ¬ LetsOut Q) (hn : noDefer ops.toList = true) : ∀ (fuel : Nat) (listed : Array Bool) (a : Act) (w : World), wpAny P md ops Q fuel listed a w → wpAnyIn (Fence.wide.inRound l) n P md ops Q fuel listed a w := by
  intro fuel
  induction fuel with
  | zero => intro listed a w h; exact h
  | succ fuel ih =>
    intro listed a w h
    refine ⟨h.1, fun i hi => ?_⟩
    have := h.2 i hi
    unfold wpOp at this
    unfold wpOpIn
    cases ho : ops[i]? with
    | none => rw [ho] at this; exact ih _ _ _ this
    | some o =>
      rw [ho] at this
      dsimp only at this ⊢
      by_cases c : Region.wanted o (yielded ops a.tmps) = true
      · rw [if_pos c] at this ⊢
        have h := this.resolve_right (fun h => hL h.2)
        exact Oper.wpIn_mono (fun a w h => ih _ a w h) (wp_in hL (noDefer_mem hn (by rw [← Array.getElem?_toList] at ho; exact List.mem_of_getElem? ho)) h)
      · rw [if_neg c] at this ⊢
        exact ⟨fun _ _ => trivial, ih _ _ _ this⟩

theorem region_in {id : Nat} {r : List Oper} {a : Act} {w : World} (hL : ¬ LetsOut Q) (hn : noDefer r = true) (h : wpList P r.toArray Q r a w) : (Code.region id r.toArray false).wpIn (Fence.wide.inRound l) n P Q a w :=
  wpIn_region_lit (list_in hL r a w hn h)
theorem region_any_in {id : Nat} {r : List Oper} {a : Act} {w : World} (hL : ¬ LetsOut Q) (hn : noDefer r = true) (hm : P.follows .mixedOrders = true)
    (h : wpAny P .any r.toArray Q r.toArray.size (Array.replicate r.toArray.size false) a { w with drawn := w.drawn + 1 }) : (Code.region id r.toArray true).wpIn (Fence.wide.inRound l) n P Q a w :=
  wpIn_region_any hm (any_in hL (by simpa using hn) _ _ _ _ h)
end

/-- a region that draws its order, in a round -/
theorem wp_mix_in {P : Program} {r : List Oper} {Q : Exit → Act → World → Prop} {ln nn : Nat} {id : Nat} {a : Act} {w : World} (hL : ¬ LetsOut Q) (hnd : noDefer r = true) (m n : Nat) (V : Nat → World → Value → Prop) (hm : P.follows .mixedOrders = true) (hn : a.tmps.size = n) (hok : mixOK r [] m n = true)
    (hV : ∀ i W W' u, Below W.heap.size W W' → V i W u → V i W' u)
    (hfree : GoesL P r m a w V (r.take m) 0)
    (hfin : ∀ us W, Below w.heap.size w W → (∀ i, i < m → V i W (us i)) → wpList P r.toArray Q (r.drop m) (fill (r.take m) us 0 a) W) :
    (Code.region id r.toArray true).wpIn (Fence.wide.inRound ln) nn P Q a w := by
  refine region_any_in hL hnd hm (wpAny_mix [] m n V hn hok hV (fun i o him ho => .inr ?_) hfin _ _ (by simp) (fun i o _ h => ?_) (fun i _ _ => ?_) rfl rfl (fun _ _ => rfl) (fun j q d _ h => ?_) (Below.refl _ _).drew (fun j hj => by cases hj) ?_)
  · have := hfree.get _ _ i o (by rw [List.getElem?_take_of_lt him]; exact ho)
    simpa using this
  · exfalso
    replace h : (Array.replicate r.toArray.size false).getD i false = true := h
    rw [Array.getD_eq_getD_getElem?, Array.getElem?_replicate] at h; split at h <;> simp at h
  · rw [Array.getD_eq_getD_getElem?, Array.getElem?_replicate]; split <;> rfl
  · exfalso; rw [Array.getD_eq_getD_getElem?, Array.getElem?_replicate] at h; split at h <;> simp at h
  · have hml : m ≤ r.length := by
      simp only [mixOK, Bool.and_eq_true, decide_eq_true_eq] at hok
      exact hok.1.1.1.1.2
    have := List.length_filter_le (fun i => !(Array.replicate r.toArray.size false).getD i false) (List.range m)
    simp only [List.length_range] at this
    simp only [List.size_toArray] at *
    omega

/-! ### the loop -/
/-- a call of yield: one round -/
def Yields (P : Program) (l : Nat) (args : Array Value) (W : World) (R : Ending → World → Prop) : Prop :=
  ∃ fn tmps assign body, (Instr.yield l args).run P W = .ok (.round l fn tmps assign body) W ∧ RoundIn Fence.wide 0 P l fn tmps assign body W R

/-- the blocks of S lie as they lay -/
structure SameOn (S : Nat → Prop) (A B : World) : Prop where
  os : B.os = A.os
  tape : B.tape = A.tape
  output : B.output = A.output
  size : A.heap.size ≤ B.heap.size
  block : ∀ k, k < A.heap.size → S k → B.heap[k]? = A.heap[k]?
theorem SameOn.refl (S : Nat → Prop) (A : World) : SameOn S A A := ⟨rfl, rfl, rfl, Nat.le_refl _, fun _ _ _ => rfl⟩
theorem SameOn.trans {S : Nat → Prop} {A B C : World} (h : SameOn S A B) (k : SameOn S B C) : SameOn S A C :=
  ⟨k.os.trans h.os, k.tape.trans h.tape, k.output.trans h.output, Nat.le_trans h.size k.size, fun i hi hS => (k.block i (Nat.lt_of_lt_of_le hi h.size) hS).trans (h.block i hi hS)⟩
theorem SameOn.mono {S S' : Nat → Prop} {A B : World} (h : SameOn S A B) (hS : ∀ k, S' k → S k) : SameOn S' A B :=
  ⟨h.os, h.tape, h.output, h.size, fun k hk h' => h.block k hk (hS k h')⟩
theorem SameOn.of_below {S : Nat → Prop} {n : Nat} {A B : World} (h : Below n A B) (hS : ∀ k, S k → k < A.heap.size → k < n) : SameOn S A B :=
  ⟨h.os, h.tape, h.output, h.size, fun k hk hk' => h.block k (hS k hk' hk)⟩
theorem SameOn.of_new {S : Nat → Prop} {A B : World} (h : Below A.heap.size A B) : SameOn S A B := .of_below h fun _ _ h => h
theorem SameOn.below {S : Nat → Prop} {n : Nat} {A B : World} (h : SameOn S A B) (hn : n ≤ A.heap.size) (hS : ∀ k, k < n → S k) : Below n A B :=
  ⟨h.os, h.tape, h.output, h.size, fun k hk => h.block k (by omega) (hS k hk)⟩
theorem SameOn.of_grown {S : Nat → Prop} {A B : World} {row : Option Nat} (h : A.grownBy B row) (hS : ∀ k, row = some k → ¬ S k) : SameOn S A B :=
  ⟨h.os, h.tape, h.output, h.size, fun k hk hk' => h.block k hk (fun e => hS k e.symm hk')⟩
theorem SameOn.set {S : Nat → Prop} (A : World) (p : Addr) (v : Value) (h : ¬ S p.block) : SameOn S A (A.setCell p v) :=
  ⟨rfl, rfl, rfl, by simp [World.setCell], fun k _ hk => Below.heap_setCell _ _ _ _ (fun e => h (e ▸ hk))⟩
theorem SameOn.cell {S : Nat → Prop} {A B : World} (k : SameOn S A B) {p : Addr} {v : Value} (hp : S p.block) (h : A.cell? p = some v) : B.cell? p = some v :=
  (World.cell?_of_block (k.block _ (World.block_lt_of_cell? A p h) hp)).trans h
theorem Sl.same {α : Type} {K : Kind α} {S F : Nat → Prop} {A B : World} {xs : List α} {v : Value} (h : Sl K F A xs v) (k : SameOn S A B) (hF : ∀ k, F k → S k) : Sl K F B xs v :=
  Sl.mono (fun _ h => h.1) (Sl.move (fun b hb => k.block b hb.2 (hF b hb.1)) h.bound)
theorem IsF.same {S F : Nat → Prop} {A B : World} {t : T} {x y : Value} (h : IsF F A t x y) (k : SameOn S A B) (hF : ∀ k, F k → S k) : IsF F B t x y :=
  IsF.mono (fun _ h => h.1) (IsF.move (fun b hb => k.block b hb.2 (hF b hb.1)) h.bound)

/-- what a round does: it writes its own blocks U alone; new blocks may be its own from now on -/
def UserStep (U U' : Nat → Prop) (A B : World) : Prop := SameOn (fun k => ¬ U k) A B ∧ (∀ k, U' k → U k ∨ A.heap.size ≤ k) ∧ ∀ k, U' k → k < B.heap.size

/-- A function that hands its loop all of a row, one by one, and never stops by itself. Fr: the blocks that it reads; F: what nobody turns; U: what the loop's rounds may turn. -/
def SeqAll {α : Type} (P : Program) (gf : Nat) (lb : Array Value) (enc : α → World → Array Value → Prop) (Fr : Nat → Prop) (xs : List α) (W0 : World) : Prop :=
  ∀ (l : Nat) (J : List α → (Nat → Prop) → World → Prop) (F : Nat → Prop) (W : World), Below W0.heap.size W0 W → (∀ k, Fr k → F k) → (∀ k, F k → k < W.heap.size) →
    (∀ pre U A B, J pre U A → SameOn (fun k => U k ∨ F k) A B → J pre U B) →
    (∀ pre x args A U, J pre U A → (∀ k, F k → ¬ U k) → (∀ k, U k → k < A.heap.size) → pre ++ [x] <+: xs → enc x A args → Yields P l args A fun e B => e = .returned (.bool true) ∧ ∃ U', J (pre ++ [x]) U' B ∧ UserStep U U' A B) →
    ∀ U0, J [] U0 W → (∀ k, F k → ¬ U0 k) → (∀ k, U0 k → k < W.heap.size) →
    Calls P gf (#[.func (.yield l) #[] #[]] ++ lb) W fun e B => (∃ v, e = .returned v) ∧ ∃ U, J xs U B

theorem SeqAll.later {α : Type} {P : Program} {gf : Nat} {lb : Array Value} {enc : α → World → Array Value → Prop} {F : Nat → Prop} {xs : List α} {W0 W : World} (h : SeqAll P gf lb enc F xs W0) (hb : Below W0.heap.size W0 W) : SeqAll P gf lb enc F xs W :=
  fun l J F W1 hW => h l J F W1 (hb.trans (hW.mono hb.size))

theorem roundIn_any {n m : Nat} {P : Program} {l : Nat} {f : FuncId} {tmps : Array Value} {assign body : Code} {w : World} {R : Ending → World → Prop} (h : RoundIn Fence.wide n P l f tmps assign body w R) : RoundIn Fence.wide m P l f tmps assign body w R :=
  ⟨h.1, fun c cs _ => h.2 c cs (room_wide _)⟩

/-- how a round's body ends: it goes on -/
def roundGoes (K : World → Prop) : Exit → Act → World → Prop
  | .normal, _, B => K B
  | _, _, _ => False
theorem roundGoes_out (K : World → Prop) : ¬ LetsOut (roundGoes K) := fun ⟨_, _, h⟩ => h
theorem inBlock_out (id : Nat) {Q : Exit → Act → World → Prop} (h : ¬ LetsOut Q) : ¬ LetsOut (Exit.inBlock id Q) := fun ⟨a, w, h'⟩ => h ⟨a, w, h'⟩
theorem then_out' {K : Act → World → Prop} {Q : Exit → Act → World → Prop} (h : ¬ LetsOut Q) : ¬ LetsOut (Exit.then K Q) := fun ⟨a, w, h'⟩ => h ⟨a, w, h'⟩
theorem then_out {K : Act → World → Prop} : ¬ LetsOut (Exit.then K fun _ _ _ => False) := fun ⟨_, _, h⟩ => h

theorem wp_rangeAll {α : Type} {P : Program} {g : Operand} {ps : Array Tmp} {assign body : Code} {Q : Exit → Act → World → Prop} {a : Act} {w : World} {gf : Nat} {lb : Array Value}
    (hg : a.eval g = .func (.func gf) #[] lb) (eg : ∀ args w, (callFunc gf args).run P w = .ok (.enter gf args) w)
    {enc : α → World → Array Value → Prop} {Fr F : Nat → Prop} {xs : List α} (hseq : SeqAll P gf lb enc Fr xs w) (hps : ∀ x W args, enc x W args → args.size = ps.size) (hFr : ∀ k, Fr k → F k) (hF : ∀ k, F k → k < w.heap.size)
    (I : List α → (Nat → Prop) → World → Prop) (hI : ∀ pre V A B, I pre V A → SameOn (fun k => V k ∨ F k) A B → I pre V B) (V0 : Nat → Prop) (h0 : I [] V0 w) (hV0 : ∀ k, F k → ¬ V0 k) (hV0' : ∀ k, V0 k → k < w.heap.size)
    (hround : ∀ (l : Nat) (pre : List α) (x : α) (args : Array Value) (A : World) (V : Nat → Prop), w.heap.size ≤ l → l < A.heap.size → w.heap.size ≤ A.heap.size → I pre V A → (∀ k, F k → ¬ V k) → ¬ V l → (∀ k, V k → k < A.heap.size) → enc x A args → pre ++ [x] <+: xs →
      assign.wpIn (Fence.wide.inRound l) 0 P (Exit.then (fun a₁ A₁ => Below A.heap.size A A₁ ∧ ∀ A₂, A₁.grownBy A₂ (some l) → A₂.heap.size = A₁.heap.size → (∀ (p : Addr), p.block ≠ l → A₂.cell? p = A₁.cell? p) →
        body.wpIn (Fence.wide.inRound l) 0 P (roundGoes fun B => ∃ V', I (pre ++ [x]) V' B ∧ SameOn (fun k => ¬ V k ∧ k < A.heap.size) A₂ B ∧ (∀ k, V' k → V k ∨ A.heap.size ≤ k) ∧ ∀ k, V' k → k < B.heap.size) a₁ A₂) (fun _ _ _ => False)) { tmps := (ps.zip args).foldl (fun t (p, v) => t.setIfInBounds p v) a.tmps, defers := [] } A)
    (hdone : ∀ (D : Nat) (B : World) (V : Nat → Prop), w.heap.size ≤ D → I xs V B → ¬ V D → B.heap[D]? = some (.deferred (some [])) → Q .normal { a with defers := { target := .collected D, args := #[] } :: a.defers } B) :
    (Code.rangeFunc g ps assign body).wp P Q a w := by
  refine (wpIn_wide (n := 0)).1 (wpIn_rangeFunc ?_)
  intro fn hfn
  rw [show Fence.wide.round = none from rfl]
  obtain ⟨rec, hrec⟩ : ∃ rec : LoopState → Option Code → Loop, rec = fun st pe => { state := st, pending := pe, fn, tmps := a.tmps, params := ps, assign, body, defers := w.heap.size } := ⟨_, rfl⟩
  obtain ⟨W1, hW1⟩ : ∃ W1, (w.alloc (.deferred (some []))).alloc (.loop (rec .ready none)) = W1 := ⟨_, rfl⟩
  have hz1 : W1.heap.size = w.heap.size + 2 := by rw [← hW1]; simp
  have hL1 : W1.heap[w.heap.size + 1]? = some (.loop (rec .ready none)) := by
    rw [← hW1]; have := World.alloc_heap_new (w.alloc (.deferred (some []))) (.loop (rec .ready none)); rwa [World.size_alloc] at this
  have hK1 : W1.heap[w.heap.size]? = some (.deferred (some [])) := by
    rw [← hW1]; exact (Below.heap_alloc _ _ _ (by simp)).trans (World.alloc_heap_new w _)
  have hb1 : Below w.heap.size w W1 := by
    rw [← hW1]; exact ((Below.refl _ w).alloc (Nat.le_refl _) _).alloc (by simp) _
  have hI1 : I [] V0 W1 := hI _ _ _ _ h0 (.of_new hb1)
  have hput : ∀ (S : Nat → Prop) (W : World) (o : Obj), ¬ S (w.heap.size + 1) → SameOn S W (W.putObj (w.heap.size + 1) o) := fun S W o hS => ⟨rfl, rfl, rfl, by simp, fun k _ hk => World.putObj_heap_other (fun e => hS (e ▸ hk))⟩
  refine ⟨w.heap.size + 1, [{ target := .collected w.heap.size, args := #[] }], W1, { target := .fn (.func gf) lb, args := #[.func (.yield (w.heap.size + 1)) #[] #[]] }, W1, gf,
    #[.func (.yield (w.heap.size + 1)) #[] #[]] ++ lb, W1, ?_, ?_, ?_, ?_, fun h => by simp [Fence.wide] at h, ?_⟩
  · rw [← hW1, hrec]; exact run_enterLoop_outer _ _ _ _ _
  · simp only [resolve, hg]
    simp [go_sem]
  · intro f' _; trivial
  · simp [invoke, go_sem, eg]
  · refine callsIn_wide.2 ((hseq (w.heap.size + 1)
      (fun pre U W => ∃ V : Nat → Prop, (∀ k, U k ↔ V k ∨ k = w.heap.size + 1 ∨ k = w.heap.size) ∧ ¬ V (w.heap.size + 1) ∧ ¬ V w.heap.size ∧ I pre V W ∧ W.heap[w.heap.size + 1]? = some (.loop (rec .ready none)) ∧ W.heap[w.heap.size]? = some (.deferred (some [])))
      F W1 hb1 hFr (fun k hk => by have := hF k hk; omega) ?_ ?_ (fun k => V0 k ∨ k = w.heap.size + 1 ∨ k = w.heap.size) ⟨V0, fun _ => Iff.rfl, fun h => by have := hV0' _ h; omega, fun h => by have := hV0' _ h; omega, hI1, hL1, hK1⟩ (fun k hk h => ?_) (fun k h => ?_)).mono ?_)
    · rintro pre U A B ⟨V, hU, hv1, hv2, hi, hl, hd⟩ hS
      have hl1 := (Array.getElem?_eq_some_iff.1 hl).1
      exact ⟨V, hU, hv1, hv2, hI _ _ _ _ hi (hS.mono fun k h => h.imp (fun h => (hU k).2 (.inl h)) id), (hS.block _ hl1 (.inl ((hU _).2 (.inr (.inl rfl))))).trans hl, (hS.block _ (by omega) (.inl ((hU _).2 (.inr (.inr rfl))))).trans hd⟩
    · rintro pre x args W U ⟨V, hU, hv1, hv2, hi, hl, hk⟩ hFU hUW hpre henc
      have hlt : w.heap.size + 1 < W.heap.size := (Array.getElem?_eq_some_iff.1 hl).1
      have hy := run_yield (P := P) (args := args) hl (by rw [hrec]; exact hps x W args henc)
      rw [hrec] at hy
      refine ⟨fn, _, assign, body, hy, roundIn_of_wpIn hfn ?_⟩
      refine wpIn_mono (hround (w.heap.size + 1) pre x args W V (by omega) hlt (by omega) hi (fun k hk h => hFU k hk ((hU k).2 (.inl h))) hv1 (fun k h => hUW k ((hU k).2 (.inl h))) henc hpre) ?_
      clear hy
      rintro e a' Wa hp
      cases e with
      | normal =>
        obtain ⟨hba, hbody⟩ := hp
        have hla := (hba.block _ hlt).trans hl
        have hka := (hba.block w.heap.size (by omega)).trans hk
        have hza := hba.size
        refine ⟨_, run_beginRound hla (by rw [hrec]), ?_⟩
        have hl2 : (Wa.putObj (w.heap.size + 1) (.loop { rec .ready none with state := .busy })).heap[w.heap.size + 1]? = some (.loop { rec .ready none with state := .busy }) := World.putObj_heap_same (by omega)
        have hk2 : (Wa.putObj (w.heap.size + 1) (.loop { rec .ready none with state := .busy })).heap[w.heap.size]? = some (.deferred (some [])) := (World.putObj_heap_other (by omega)).trans hka
        refine wpIn_mono (hbody (Wa.putObj (w.heap.size + 1) (.loop { rec .ready none with state := .busy })) (grownBy_putObj' _ _ _) (by simp) (fun p hp => World.cell?_of_block (World.putObj_heap_other hp))) ?_
        rintro e a3 W3 hp
        cases e with
        | normal =>
          obtain ⟨V', hi3, hk3, hV', hV3⟩ := hp
          have hn1 : ¬ V' (w.heap.size + 1) := fun h => by rcases hV' _ h with h | h; exact hv1 h; omega
          have hn2 : ¬ V' w.heap.size := fun h => by rcases hV' _ h with h | h; exact hv2 h; omega
          have hl3 := (hk3.block (w.heap.size + 1) (by simp; omega) ⟨hv1, by omega⟩).trans hl2
          have hd3 := (hk3.block w.heap.size (by simp; omega) ⟨hv2, by omega⟩).trans hk2
          have hz3 := hk3.size
          simp only [World.putObj_size] at hz3
          have hlt3 : w.heap.size + 1 < W3.heap.size := (Array.getElem?_eq_some_iff.1 hl3).1
          refine ⟨_, _, run_endRound (P := P) none hl3, rfl, fun k => V' k ∨ k = w.heap.size + 1 ∨ k = w.heap.size, ⟨V', fun _ => Iff.rfl, hn1, hn2, hI _ _ _ _ hi3 (hput _ _ _ (fun h => ?_)), ?_, (World.putObj_heap_other (by omega)).trans hd3⟩, ⟨hk3.os.trans hba.os, hk3.tape.trans hba.tape, hk3.output.trans hba.output, by simp only [World.putObj_size]; omega, fun k hk' hu => ?_⟩, fun k h => ?_, fun k h => ?_⟩
          · rcases h with h | h
            · exact hn1 h
            · have := hF _ h; omega
          · rw [World.putObj_heap_same hlt3]; rw [hrec]; rfl
          · have hne : k ≠ w.heap.size + 1 := fun e => hu ((hU k).2 (.inr (.inl e)))
            rw [World.putObj_heap_other hne, hk3.block k (by simp only [World.putObj_size]; omega) ⟨fun h => hu ((hU k).2 (.inl h)), hk'⟩, World.putObj_heap_other hne]
            exact hba.block k hk'
          · rcases h with h | h
            · exact (hV' k h).imp (fun h => (hU k).2 (.inl h)) id
            · exact .inl ((hU k).2 (.inr h))
          · simp only [World.putObj_size]
            rcases h with h | h | h
            · exact hV3 k h
            · omega
            · omega
        | _ => exact hp.elim
      | _ => exact hp.elim
    · rcases h with h | h | h
      · exact hV0 k hk h
      · have := hF k hk; omega
      · have := hF k hk; omega
    · rcases h with h | h | h
      · have := hV0' k h; omega
      · omega
      · omega
    · rintro e W2 ⟨⟨v, rfl⟩, U, V, hU, hv1, hv2, hi, hl, hk⟩
      exact ⟨none, _, by have := run_endLoop (P := P) hl (by rw [hrec]; simp); rw [hrec] at this; exact this, hdone _ _ V (Nat.le_refl _) (hI _ _ _ _ hi (hput _ _ _ (fun h => by rcases h with h | h; exact hv1 h; have := hF _ h; omega))) hv2 ((World.putObj_heap_other (by omega)).trans hk)⟩

/-- the function that holds the loop ends: the mark is taken off -/
theorem leaves_marked {P : Program} {fn : Func} {tmps : Array Value} {R : Ending → World → Prop} {D : Nat} {B : World} {v : Value} (hK : B.heap[D]? = some (.deferred (some [])))
    (hres : ∀ W, (∀ p : Addr, p.block ≠ D → W.cell? p = B.cell? p) → (results fn tmps).run P W = .ok v W) (hR : ∀ B', B.grownBy B' (some D) → R (.returned v) B') :
    LeavesInM Fence.wide 0 P fn tmps R [{ target := .collected D, args := #[] }] .returning B :=
  ⟨by simp, .inl ⟨D, _, rfl, run_takeDeferred hK, v, hres _ (fun p hp => World.cell?_of_block (World.putObj_heap_other hp)), hR _ (grownBy_putObj' _ _ _)⟩⟩

/-- a function's contract, where its body holds a loop over a function -/
theorem calls_marks {P : Program} {f : FuncId} {fn : Func} {c : Code} {args : Array Value} {w : World} {R : Ending → World → Prop} (hf : P.funcs[f]? = some fn) (hb : fn.body = some c)
    (h : c.wp P (bodyPostM Fence.wide 0 P fn R) { tmps := args ++ Array.replicate (fn.ntmps - args.size) undef, defers := [] } w) : Calls P f args w R :=
  callsIn_wide.1 (callsIn_of_wp_marks hf hb trivial ((wpIn_wide (n := 0)).2 h))

/-- one operation that calls yield -/
theorem yield_in {P : Program} {l : Nat} {args : Array Value} {W : World} {R : Ending → World → Prop} (h : Yields P l args W R) (n : Nat) : YieldAt Fence.wide n P l args W R := by
  obtain ⟨fn, tmps, assign, body, h1, h2⟩ := h
  exact ⟨fn, tmps, assign, body, h1, roundIn_any h2⟩
end Go.Proofs.Ytokhnlhffnidmaa
