/- The net while terms are put into it. -/
import Derived.Test.YtokhnlhffnidmaaRefF
import Derived.Test.YtokhnlhffnidmaaPlainD
import Derived.Test.YtokhnlhffnidmaaPsh
import Derived.Deep.DeepCutAuto
import Derived.Deep.CutBlock
namespace Go.Proofs.Ytokhnlhffnidmaa
open Go.RowKit Elen

theorem Try.infoN : (Try.prog.info? 61).map (fun i => (i.zero, i.size, i.bytes)) = some (some (.agg #[.int .i64 0, .slice none 0 0, .int .i64 0]), 3, 40) := by kernel_rfl
theorem Try.infoI : (Try.prog.info? 3).map (fun i => (i.zero, i.size, i.bytes)) = some (some (.int .i64 0), 1, 8) := by kernel_rfl

def natV (l : List Nat) : List Value := l.map fun k : Nat => Value.int .i64 (k : Int)

/-- The net that is being built: its block gn, its row of parts, each part's row of arguments; all of them blocks of F, from base on. -/
structure NetB (F : Nat → Prop) (base : Nat) (w : World) (gn : Nat) (N : List Nd) (lv : Value) (cs : List Value) (av : Nat → Value) : Prop where
  at_ : w.heap[gn]? = some (.cells #[lv] 53 (0, 0))
  own : w.ownsRow base 61 3 lv N.length cs
  room : N.length * 40 ≤ 140737488355328
  cell : ∀ (i : Nat) (nd : Nd), N[i]? = some nd → cs[i * 3]? = some (.int .i64 nd.head) ∧ cs[i * 3 + 1]? = some (av i) ∧ cs[i * 3 + 2]? = some (.int .i64 nd.to)
  i64 : ∀ (i : Nat) (nd : Nd), N[i]? = some nd → I64 nd.head
  args : ∀ (i : Nat) (nd : Nd), N[i]? = some nd → w.ownsRow base 3 1 (av i) nd.args.length (natV nd.args) ∧ nd.args.length * 8 ≤ 140737488355328
  apart : ∀ (i j : Nat), i < j → j < N.length → (av i).ownBlock = none ∨ (av i).ownBlock ≠ (av j).ownBlock
  fn : F gn
  fl : ∀ k, lv.ownBlock = some k → F k
  fa : ∀ (i : Nat) (nd : Nd) (k : Nat), N[i]? = some nd → (av i).ownBlock = some k → F k
  lt : ∀ k, F k → base ≤ k ∧ k < w.heap.size

theorem own_type {w : World} {base : Nat} {e : TypeId} {size n : Nat} {v : Value} {xs : List Value} (h : w.ownsRow base e size v n xs) (k : Nat) (hk : v.ownBlock = some k) : ∃ cells, w.heap[k]? = some (.cells cells e (0, 0)) := by
  rcases h.2 with ⟨rfl, _⟩ | ⟨g, cap, cur, rfl, hg, hh, r⟩
  · simp [Value.ownBlock] at hk
  · have : g = k := by simpa [Value.ownBlock] using hk
    subst this
    exact ⟨cur, hh⟩
theorem own_ne_type {w : World} {b b' : Nat} {e e' : TypeId} {s s' n n' : Nat} {v v' : Value} {xs xs' : List Value} (h : w.ownsRow b e s v n xs) (h' : w.ownsRow b' e' s' v' n' xs') (hne : e ≠ e') (k : Nat) (hk : v.ownBlock = some k) : v'.ownBlock ≠ some k := by
  intro hk'
  obtain ⟨c, h1⟩ := own_type h k hk
  obtain ⟨c', h2⟩ := own_type h' k hk'
  rw [h1] at h2; cases h2; exact hne rfl

/-- what is not the net's was changed or laid: the net lies on -/
theorem NetB.keep {F : Nat → Prop} {base : Nat} {w w1 : World} {gn : Nat} {N : List Nd} {lv : Value} {cs : List Value} {av : Nat → Value} (h : NetB F base w gn N lv cs av) (hm : ∀ k, F k → w1.heap[k]? = w.heap[k]?) (hz : w.heap.size ≤ w1.heap.size) : NetB F base w1 gn N lv cs av where
  at_ := (hm gn h.fn).trans h.at_
  own := by
    obtain ⟨h0, h1⟩ := h.own
    refine ⟨h0, h1.imp id ?_⟩
    rintro ⟨g, cap, cur, e, r1, r2, r3⟩
    exact ⟨g, cap, cur, e, r1, (hm g (h.fl g (by rw [e]; rfl))).trans r2, r3⟩
  room := h.room
  cell := h.cell
  i64 := h.i64
  args := fun i nd e => by
    obtain ⟨⟨h0, h1⟩, h2⟩ := h.args i nd e
    refine ⟨⟨h0, h1.imp id ?_⟩, h2⟩
    rintro ⟨g, cap, cur, e', r1, r2, r3⟩
    exact ⟨g, cap, cur, e', r1, (hm g (h.fa i nd g e (by rw [e']; rfl))).trans r2, r3⟩
  apart := h.apart
  fn := h.fn
  fl := h.fl
  fa := h.fa
  lt := fun k hk => ⟨(h.lt k hk).1, Nat.lt_of_lt_of_le (h.lt k hk).2 hz⟩

/-- as it is read -/
theorem NetB.cells {F : Nat → Prop} {base : Nat} {w : World} {gn : Nat} {N : List Nd} {lv : Value} {cs : List Value} {av : Nat → Value} (h : NetB F base w gn N lv cs av) (hp : 0 < N.length) :
    ∃ g cap, lv = .slice (some ⟨g, 0, none⟩) N.length cap ∧ F g ∧ w.cell? ⟨gn, 0, none⟩ = some lv ∧ w.frozen? ⟨gn, 0, none⟩ = false ∧ (∀ (j : Nat) (u : Value), cs[j]? = some u → w.cell? ⟨g, j, none⟩ = some u ∧ w.frozen? ⟨g, j, none⟩ = false) := by
  have h1 := cell_of_block h.at_ (j := 0) (v := lv) rfl
  have h2 := frozen_of_block h.at_ 0
  have ho := h.own
  have hl := h.own.1
  rcases ho.2 with ⟨_, hn⟩ | ⟨g, cap, cur, rfl, _⟩
  · omega
  · refine ⟨g, cap, rfl, h.fl g rfl, h1, h2, fun j u hj => ⟨?_, ho.frozenAt j⟩⟩
    have hlt := (List.getElem?_eq_some_iff.1 hj).1
    rw [ho.cellAt j (by omega)]; exact hj

theorem NetB.netR {F : Nat → Prop} {base : Nat} {w : World} {gn : Nat} {N : List Nd} {lv : Value} {cs : List Value} {av : Nat → Value} (h : NetB F base w gn N lv cs av) (hp : 0 < N.length) :
    ∃ g cap, NetR F w gn g cap N := by
  obtain ⟨g, cap, e, hg, h1, _, h2⟩ := h.cells hp
  refine ⟨g, cap, by rw [h1, e], h.room, h.fn, hg, fun i hi => ?_⟩
  have hi' := List.getElem?_eq_getElem hi
  obtain ⟨c0, c1, c2⟩ := h.cell i _ hi'
  obtain ⟨ha, ha8⟩ := h.args i _ hi'
  refine ⟨[_, av i, _], ⟨av i, rfl, h.i64 i _ hi', ?_⟩, fun j hj => ?_⟩
  · rcases ha.2 with ⟨e0, hn⟩ | ⟨g', cap', cur, e0, r1, r2, r3, r4, r5, r6⟩
    · refine ⟨none, 0, by rw [e0, hn], by omega, by rw [hn]; simp, fun h => by omega⟩
    · refine ⟨_, cap', e0, r3, ha8, fun _ => ⟨g', 0, rfl, h.fa i _ g' hi' (by rw [e0]; rfl), fun k hk => ⟨[_], rfl, fun q hq => ?_⟩⟩⟩
      obtain rfl : q = 0 := by simpa using hq
      rw [e0] at ha
      have := ha.cellAt k (by omega)
      have hz : (KI).sz = 1 := rfl
      rw [hz, show 0 + k * 1 + 0 = k from by omega, this]
      simp [natV, hk]
  · have hz : (KN).sz = 3 := rfl
    have : j = 0 ∨ j = 1 ∨ j = 2 := by simp at hj; omega
    rcases this with rfl | rfl | rfl
    · rw [hz, show 0 + i * 3 + 0 = i * 3 from by omega]; exact (h2 _ _ c0).1
    · rw [hz, show 0 + i * 3 + 1 = i * 3 + 1 from by omega]; exact (h2 _ _ c1).1
    · rw [hz, show 0 + i * 3 + 2 = i * 3 + 2 from by omega]; exact (h2 _ _ c2).1

/-- a block of the net is of one of three types -/
theorem NetB.ne_gn {F : Nat → Prop} {base : Nat} {w : World} {gn : Nat} {N : List Nd} {lv : Value} {cs : List Value} {av : Nat → Value} (h : NetB F base w gn N lv cs av) : lv.ownBlock ≠ some gn := by
  intro hk
  obtain ⟨c, h1⟩ := own_type h.own gn hk
  rw [h.at_] at h1; cases h1
theorem NetB.ne_arg {F : Nat → Prop} {base : Nat} {w : World} {gn : Nat} {N : List Nd} {lv : Value} {cs : List Value} {av : Nat → Value} (h : NetB F base w gn N lv cs av) {i : Nat} {nd : Nd} (hi : N[i]? = some nd) : (av i).ownBlock ≠ some gn ∧ ∀ k, lv.ownBlock = some k → (av i).ownBlock ≠ some k := by
  refine ⟨fun hk => ?_, fun k hk => own_ne_type h.own (h.args i nd hi).1 (by decide) k hk⟩
  obtain ⟨c, h1⟩ := own_type (h.args i nd hi).1 gn hk
  rw [h.at_] at h1; cases h1

/-- one part more -/
theorem NetB.push {F : Nat → Prop} {base : Nat} {W w1 w2 : World} {gn : Nat} {N : List Nd} {lv v1 : Value} {cs : List Value} {av : Nat → Value} {hd : Int} (h : NetB F base W gn N lv cs av)
    (ho : w1.ownsRow base 61 3 v1 (N.length + 1) (cs ++ [.int .i64 hd, .slice none 0 0, .int .i64 (-1)])) (hg : W.grownBy w1 lv.ownBlock) (hat : v1.ownBlock = lv.ownBlock ∨ v1.ownBlock = some W.heap.size)
    (hr : (N.length + 1) * 40 ≤ 140737488355328) (hi : I64 hd) (hz : gn < W.heap.size) (e2 : w2 = w1.setCell ⟨gn, 0, none⟩ v1) :
    NetB (fun k => F k ∨ v1.ownBlock = some k) base w2 gn (N ++ [⟨hd, [], -1⟩]) v1 (cs ++ [.int .i64 hd, .slice none 0 0, .int .i64 (-1)]) (fun i => if i = N.length then .slice none 0 0 else av i) := by
  subst e2
  have hcl : cs.length = N.length * 3 := h.own.1
  have hv1 : v1.ownBlock ≠ some gn := by
    rcases hat with e | e
    · rw [e]; exact h.ne_gn
    · rw [e]; intro hh; have := Option.some.inj hh; omega
  have hget : ∀ (i : Nat) (nd : Nd), (N ++ [(⟨hd, [], -1⟩ : Nd)])[i]? = some nd → (i < N.length ∧ N[i]? = some nd) ∨ (i = N.length ∧ nd = ⟨hd, [], -1⟩) := by
    intro i nd e
    by_cases c : i < N.length
    · rw [List.getElem?_append_left c] at e; exact .inl ⟨c, e⟩
    · rw [List.getElem?_append_right (by omega)] at e
      have : i - N.length = 0 := by
        have := (List.getElem?_eq_some_iff.1 e).1; simpa using this
      rw [this] at e
      exact .inr ⟨by omega, by simpa using e.symm⟩
  refine ⟨?_, ?_, by simpa using hr, fun i nd e => ?_, fun i nd e => ?_, fun i nd e => ?_, fun i j hij hj => ?_, .inl h.fn, fun k hk => .inr hk, fun i nd k e hk => ?_, fun k hk => ?_⟩
  · exact heap_setCell_at ((hg.block gn hz (fun e => h.ne_gn e.symm)).trans h.at_) 0 v1
  · refine ⟨by simpa using ho.1, ?_⟩
    rcases ho.2 with ⟨_, hn⟩ | ⟨g, cap, cur, rfl, r1, r2, r3⟩
    · omega
    · refine .inr ⟨g, cap, cur, by simp, r1, ?_, by simpa using r3⟩
      rw [Below.heap_setCell _ _ _ _ (fun e => hv1 (by rw [e]; rfl))]; exact r2
  · rcases hget i nd e with ⟨c, e⟩ | ⟨rfl, rfl⟩
    · obtain ⟨c0, c1, c2⟩ := h.cell i nd e
      have : ∀ q, q < 3 → ∀ u, cs[i * 3 + q]? = some u → (cs ++ [.int .i64 hd, .slice none 0 0, .int .i64 (-1)])[i * 3 + q]? = some u := fun q hq u hu => by
        rw [List.getElem?_append_left (by omega)]; exact hu
      refine ⟨this 0 (by omega) _ c0, ?_, this 2 (by omega) _ c2⟩
      rw [if_neg (by omega)]; exact this 1 (by omega) _ c1
    · refine ⟨?_, ?_, ?_⟩
      · rw [List.getElem?_append_right (by omega), hcl]; simp
      · rw [List.getElem?_append_right (by omega), hcl]; simp
      · rw [List.getElem?_append_right (by omega), hcl]; simp
  · rcases hget i nd e with ⟨c, e⟩ | ⟨rfl, rfl⟩
    · exact h.i64 i nd e
    · exact hi
  · rcases hget i nd e with ⟨c, e⟩ | ⟨rfl, rfl⟩
    · rw [if_neg (by omega)]
      obtain ⟨a1, a2⟩ := h.args i nd e
      refine ⟨⟨a1.1, a1.2.imp id ?_⟩, a2⟩
      rintro ⟨g, cap, cur, e', r1, r2, r3⟩
      refine ⟨g, cap, cur, e', r1, ?_, r3⟩
      have hb : (av i).ownBlock = some g := by rw [e']; rfl
      rw [Below.heap_setCell _ _ _ _ (fun e'' => (h.ne_arg e).1 (by rw [hb, e'']))]
      exact (hg.block g (h.lt g (h.fa i nd g e hb)).2 (fun e'' => (h.ne_arg e).2 g e''.symm hb)).trans r2
    · rw [if_pos rfl]
      exact ⟨World.ownsRow_nil _ _ _ _, by simp⟩
  · simp only [List.length_append, List.length_cons, List.length_nil] at hj
    rw [if_neg (by omega)]
    by_cases c : j = N.length
    · rw [if_pos c]
      cases hb : (av i).ownBlock with
      | none => exact .inl rfl
      | some k => exact .inr (by simp [Value.ownBlock])
    · rw [if_neg c]; exact h.apart i j hij (by omega)
  · rcases hget i nd e with ⟨c, e⟩ | ⟨rfl, rfl⟩
    · rw [if_neg (by omega)] at hk; exact .inl (h.fa i nd k e hk)
    · rw [if_pos rfl] at hk; simp [Value.ownBlock] at hk
  · have hsz : W.heap.size ≤ (w1.setCell ⟨gn, 0, none⟩ v1).heap.size := by have := hg.size; simpa [World.setCell] using this
    rcases hk with hk | hk
    · have := h.lt k hk; exact ⟨this.1, by omega⟩
    · have := ho.lt k hk
      exact ⟨this.1, by simpa [World.setCell] using this.2⟩

/-- one argument more of part i -/
theorem NetB.arg {F : Nat → Prop} {base : Nat} {W w1 : World} {gn : Nat} {N : List Nd} {v1 : Value} {cs : List Value} {av : Nat → Value} {g cap i q : Nat} {nd : Nd} (h : NetB F base W gn N (.slice (some ⟨g, 0, none⟩) N.length cap) cs av) (hi : N[i]? = some nd)
    (ho : w1.ownsRow base 3 1 v1 (nd.args.length + 1) (natV nd.args ++ [.int .i64 (q : Int)])) (hg : W.grownBy w1 (av i).ownBlock) (hat : v1.ownBlock = (av i).ownBlock ∨ v1.ownBlock = some W.heap.size)
    (hr : (nd.args.length + 1) * 8 ≤ 140737488355328) :
    NetB (fun k => F k ∨ v1.ownBlock = some k) base (w1.setCell ⟨g, i * 3 + 1, none⟩ v1) gn (addArg N i q) (.slice (some ⟨g, 0, none⟩) N.length cap) (cs.set (i * 3 + 1) v1) (fun j => if j = i then v1 else av j) := by
  have hgF : F g := h.fl g rfl
  have hcl : cs.length = N.length * 3 := h.own.1
  have hiN : i < N.length := (List.getElem?_eq_some_iff.1 hi).1
  have hgW := (h.lt g hgF).2
  have hlen : (addArg N i q).length = N.length := by simp [addArg]
  have hget : ∀ (j : Nat) (x : Nd), (addArg N i q)[j]? = some x → ∃ x0 : Nd, N[j]? = some x0 ∧ x.head = x0.head ∧ x.to = x0.to ∧ (j ≠ i → x = x0) ∧ (j = i → x.args = nd.args ++ [q]) := by
    intro j x e
    rw [addArg_get] at e
    obtain ⟨x0, e0, rfl⟩ := Option.map_eq_some_iff.1 e
    refine ⟨x0, e0, by split <;> rfl, by split <;> rfl, fun c => by rw [if_neg c], fun c => ?_⟩
    subst c; rw [hi] at e0; cases e0; rw [if_pos rfl]
  have hne1 : (av i).ownBlock ≠ some g := (h.ne_arg hi).2 g rfl
  have hv1 : v1.ownBlock ≠ some g := by
    rcases hat with e | e
    · rw [e]; exact hne1
    · rw [e]; intro hh; have := Option.some.inj hh; omega
  refine ⟨?_, ?_, by rw [hlen]; exact h.room, fun j x e => ?_, fun j x e => ?_, fun j x e => ?_, fun a b hab hb => ?_, .inl h.fn, fun k hk => .inl (h.fl k hk), fun j x k e hk => ?_, fun k hk => ?_⟩
  · rw [Below.heap_setCell _ _ _ _ (fun e => h.ne_gn (by rw [e]; rfl))]
    exact (hg.block gn (h.lt gn h.fn).2 (fun e => (h.ne_arg hi).1 e.symm)).trans h.at_
  · rw [hlen]
    have hk : w1.ownsRow base 61 3 (.slice (some ⟨g, 0, none⟩) N.length cap) N.length cs := h.own.kept hg (.inr (fun e => hne1 e.symm))
    exact (hk.stored (i * 3 + 1) v1).1
  · obtain ⟨x0, e0, a1, a2, _, _⟩ := hget j x e
    obtain ⟨c0, c1, c2⟩ := h.cell j x0 e0
    have hj : j < N.length := (List.getElem?_eq_some_iff.1 e0).1
    have hs : ∀ p, p ≠ i * 3 + 1 → (cs.set (i * 3 + 1) v1)[p]? = cs[p]? := fun p hp => List.getElem?_set_ne (Ne.symm hp)
    refine ⟨by rw [a1, hs _ (by omega)]; exact c0, ?_, by rw [a2, hs _ (by omega)]; exact c2⟩
    by_cases c : j = i
    · subst c; rw [if_pos rfl, List.getElem?_set_self (by omega)]
    · rw [if_neg c, hs _ (by omega)]; exact c1
  · obtain ⟨x0, e0, a1, _, _, _⟩ := hget j x e
    rw [a1]; exact h.i64 j x0 e0
  · obtain ⟨x0, e0, _, _, a3, a4⟩ := hget j x e
    by_cases c : j = i
    · rw [if_pos c, a4 c]
      have hnat : natV (nd.args ++ [q]) = natV nd.args ++ [.int .i64 (q : Int)] := by simp [natV]
      rw [hnat]
      refine ⟨⟨by simpa using ho.1, ?_⟩, by simpa using hr⟩
      rcases ho.2 with ⟨_, hn⟩ | ⟨g', cap', cur, rfl, r1, r2, r3⟩
      · omega
      · refine .inr ⟨g', cap', cur, by simp, r1, ?_, by simpa using r3⟩
        rw [Below.heap_setCell _ _ _ _ (fun e => hv1 (by rw [e]; rfl))]; exact r2
    · rw [if_neg c, a3 c]
      obtain ⟨b1, b2⟩ := h.args j x0 e0
      refine ⟨⟨b1.1, b1.2.imp id ?_⟩, b2⟩
      rintro ⟨g', cap', cur, e', r1, r2, r3⟩
      have hb : (av j).ownBlock = some g' := by rw [e']; rfl
      refine ⟨g', cap', cur, e', r1, ?_, r3⟩
      rw [Below.heap_setCell _ _ _ _ (fun e'' => (h.ne_arg e0).2 g rfl (by rw [hb, e'']))]
      refine (hg.block g' (h.lt g' (h.fa j x0 g' e0 hb)).2 (fun e'' => ?_)).trans r2
      have hj : j < N.length := (List.getElem?_eq_some_iff.1 e0).1
      rcases Nat.lt_or_ge i j with c' | c'
      · rcases h.apart i j c' hj with d | d
        · rw [d] at e''; cases e''
        · exact d (by rw [hb, e''])
      · rcases h.apart j i (by omega) hiN with d | d
        · rw [d] at hb; cases hb
        · exact d (by rw [hb, e''])
  · rw [hlen] at hb
    have ha : N[a]? = some N[a] := List.getElem?_eq_getElem (by omega)
    have hb' : N[b]? = some N[b] := List.getElem?_eq_getElem hb
    have key : ∀ j x0, N[j]? = some x0 → j ≠ i → v1.ownBlock = none ∨ v1.ownBlock ≠ (av j).ownBlock := by
      intro j x0 e0 c
      have hj : j < N.length := (List.getElem?_eq_some_iff.1 e0).1
      rcases hat with e | e
      · rcases Nat.lt_or_ge i j with c' | c'
        · rw [e]; exact h.apart i j c' hj
        · rw [e]
          rcases h.apart j i (by omega) hiN with d | d
          · cases hbi : (av i).ownBlock with
            | none => exact .inl rfl
            | some k => exact .inr (by rw [d]; simp)
          · exact .inr (fun e'' => d e''.symm)
      · rw [e]
        refine .inr (fun e'' => ?_)
        have := (h.lt _ (h.fa j x0 _ e0 e''.symm)).2
        omega
    by_cases ca : a = i
    · rw [if_pos ca, if_neg (by omega)]; exact key b _ hb' (by omega)
    · rw [if_neg ca]
      by_cases cb : b = i
      · rw [if_pos cb]
        rcases key a _ ha ca with d | d
        · cases hbi : (av a).ownBlock with
          | none => exact .inl rfl
          | some k => exact .inr (by rw [d]; simp)
        · exact .inr (fun e'' => d e''.symm)
      · rw [if_neg cb]; exact h.apart a b hab hb
  · obtain ⟨x0, e0, _, _, _, _⟩ := hget j x e
    by_cases c : j = i
    · rw [if_pos c] at hk; exact .inr hk
    · rw [if_neg c] at hk; exact .inl (h.fa j x0 k e0 hk)
  · have hs1 := hg.size
    have hsz : (w1.setCell ⟨g, i * 3 + 1, none⟩ v1).heap.size = w1.heap.size := by simp [World.setCell]
    rcases hk with hk | hk
    · have := h.lt k hk; exact ⟨this.1, by omega⟩
    · have := ho.lt k hk
      exact ⟨this.1, by omega⟩

section
variable {P : Program} {ops : Array Oper} {rest : List Oper} {o : Oper} {a : Act} {Q : Exit → Act → World → Prop}
/-- 'append(v, y)' of one element, which lies in a block of its own. -/
theorem wp_push {W : World} (base : Nat) (hgd : o.guard = none) (s x : Operand) (t E : TypeId) (z : Value) (size bytes : Nat)
    (ho : o.op = .call { callee := .builtin .append, args := #[s, x], argTypes := #[t, t] }) (ht : P.underlying t = some (.slice E)) (hinfo : (P.info? E).map (fun i => (i.zero, i.size, i.bytes)) = some (some z, size, bytes)) (hz : z.cells.size = size) (hpos : 0 < size) (hb1 : 0 < bytes)
    (v : Value) (n : Nat) (xs : List Value) (hs : a.eval s = v) (hown : W.ownsRow base E size v n xs) (b c : Nat) (news : List Value) (hx : a.eval x = .slice (some ⟨b, 0, none⟩) 1 c) (hl : news.length = size) (hblk : W.heap[b]? = some (.cells news.toArray E (0, 0))) (h1 : ∀ u ∈ news, u.oneCell' = true)
    (hbytes : (n + 1) * bytes ≤ 140737488355328) (hbase : base ≤ W.heap.size)
    (h : ∀ v1 w1, w1.ownsRow base E size v1 (n + 1) (xs ++ news) → W.grownBy w1 v.ownBlock → (v1.ownBlock = v.ownBlock ∨ v1.ownBlock = some W.heap.size) → wpList P ops Q rest (a.put o.dst v1) w1) :
    wpList P ops Q (o :: rest) a W := by
  obtain ⟨i0, hi, hzz⟩ := Option.map_eq_some_iff.1 hinfo
  simp only [Prod.mk.injEq] at hzz
  obtain ⟨hz0, hz1, hz2⟩ := hzz
  have hlen : n + 1 ≤ 140737488355328 := Nat.le_trans (Nat.le_mul_of_pos_right _ hb1) hbytes
  refine wpList_append_own_at W hgd s x t ho base E i0 z size bytes ht hi hz0 hz1 hz2 hz hpos v n xs hs hown ⟨b, 0, none⟩ 1 c news hx (by omega) (fun j u hju => ?_) h1 (by simp only [maxLen]; omega) hbytes hbase (fun v1 w1 k1 k2 _ k4 => h v1 w1 k1 k2 k4)
  have e : (⟨b, 0, none⟩ : Addr).add j = ⟨b, j, none⟩ := by
    unfold Addr.add
    split
    · rename_i h0; subst h0; rfl
    · simp
  rw [e]
  exact cell_of_block hblk (by simpa using hju)
end


section
variable {P : Program} {o : Oper} {a : Act} {Q : Exit → Act → World → Prop} {K : Act → World → Prop} {R : Prop}
/-- The same, inside a region that draws. -/
theorem held_push {W : World} (y : Nat → Option Bool) (base : Nat) (hgd : o.guard = none) (s x : Operand) (t E : TypeId) (z : Value) (size bytes : Nat)
    (ho : o.op = .call { callee := .builtin .append, args := #[s, x], argTypes := #[t, t] }) (ht : P.underlying t = some (.slice E)) (hinfo : (P.info? E).map (fun i => (i.zero, i.size, i.bytes)) = some (some z, size, bytes)) (hz : z.cells.size = size) (hpos : 0 < size) (hb1 : 0 < bytes)
    (v : Value) (n : Nat) (xs : List Value) (hs : a.eval s = v) (hown : W.ownsRow base E size v n xs) (b c : Nat) (news : List Value) (hx : a.eval x = .slice (some ⟨b, 0, none⟩) 1 c) (hl : news.length = size) (hblk : W.heap[b]? = some (.cells news.toArray E (0, 0))) (h1 : ∀ u ∈ news, u.oneCell' = true)
    (hbytes : (n + 1) * bytes ≤ 140737488355328) (hbase : base ≤ W.heap.size)
    (h : ∀ v1 w1, w1.ownsRow base E size v1 (n + 1) (xs ++ news) → W.grownBy w1 v.ownBlock → (v1.ownBlock = v.ownBlock ∨ v1.ownBlock = some W.heap.size) → K (a.put o.dst v1) w1) :
    if Region.wanted o y = true then Oper.wp P o a W K Q else R := by
  rw [if_pos (by simp [Region.wanted, hgd])]
  obtain ⟨i0, hi, hzz⟩ := Option.map_eq_some_iff.1 hinfo
  simp only [Prod.mk.injEq] at hzz
  obtain ⟨hz0, hz1, hz2⟩ := hzz
  have hlen : n + 1 ≤ 140737488355328 := Nat.le_trans (Nat.le_mul_of_pos_right _ hb1) hbytes
  obtain ⟨v', w', hr, h2, h3, h4, h5⟩ := run_append_own_at (P := P) W base t o.type E i0 z size bytes ht hi hz0 hz1 hz2 hz hpos v n xs hown ⟨b, 0, none⟩ 1 c news (by omega) (fun j u hju => by
    have e : (⟨b, 0, none⟩ : Addr).add j = ⟨b, j, none⟩ := by
      unfold Addr.add
      split
      · rename_i h0; subst h0; rfl
      · simp
    rw [e]
    exact cell_of_block hblk (by simpa using hju)) h1 (by simp only [maxLen]; omega) hbytes hbase
  unfold Oper.wp execOp
  simp only [ho, resolve, invoke, builtin, Sem.run_bind, Sem.run_pure, Result.andThen_ok, List.map_toArray, List.map_cons, List.map_nil, hs, hx, hr]
  exact h _ _ h2 h3 h5
end

def PutPost (gn base : Nat) (F : Nat → Prop) (r : List Nd × Nat) (w : World) (e : Ending) (w' : World) : Prop :=
  ∃ lv cs av F', e = .returned (.int .i64 (r.2 : Int)) ∧ NetB F' base w' gn r.1 lv cs av ∧ (∀ k, F' k → F k ∨ w.heap.size ≤ k) ∧ (∀ k, k < w.heap.size → ¬ F k → w'.heap[k]? = w.heap[k]?) ∧ Below base w w'

theorem own_shape {w : World} {base n : Nat} {e : TypeId} {size : Nat} {v : Value} {xs : List Value} (h : w.ownsRow base e size v n xs) : ∃ A c, v = .slice A n c := by
  rcases h.2 with ⟨rfl, rfl⟩ | ⟨g, cap, cur, rfl, _⟩
  · exact ⟨none, 0, rfl⟩
  · exact ⟨_, cap, rfl⟩

theorem Elen.T.length_le_sizeL : ∀ l : List T, l.length ≤ T.sizeL l
  | [] => by simp [T.sizeL]
  | a :: l => by have := Elen.T.length_le_sizeL l; have := T.size_pos a; simp only [T.sizeL, List.length_cons]; omega

theorem one_int (k : Int) : ∀ u ∈ [Value.int .i64 k], u.oneCell' = true := by
  intro u hu
  simp only [List.mem_singleton] at hu
  subst hu; rfl
theorem size_alloc_drew (w : World) (o : Obj) : (w.alloc o).drew.heap.size = w.heap.size + 1 := by
  show (w.heap.push o).size = _
  simp

theorem fresh_push {N : List Nd} {h : Int} (hN : Fresh N) (hi : (if h < 0 then N.findIdx? (fun x => x.head == h) else none) = none) : Fresh (N ++ [⟨h, [], -1⟩]) := by
  have hnew : ∀ j, (N ++ [(⟨h, [], -1⟩ : Nd)])[j]? = if j = N.length then some ⟨h, [], -1⟩ else N[j]? := by
    intro j
    by_cases c : j < N.length
    · rw [List.getElem?_append_left c, if_neg (by omega)]
    · rw [List.getElem?_append_right (by omega)]
      by_cases c' : j = N.length
      · subst c'; simp
      · rw [if_neg c', List.getElem?_eq_none (by simp; omega), List.getElem?_eq_none (by omega)]
  refine ⟨fun a b x y hx hy h0 he => ?_, fun a x hx h0 => ?_, fun a x hx => ?_⟩
  · rw [hnew] at hx hy
    have no : ∀ (c : Nat) (z : Nd), N[c]? = some z → h < 0 → z.head ≠ h := by
      intro c z hz h0 he
      rw [if_pos h0] at hi
      have := (List.findIdx?_eq_none_iff.1 hi) z (List.mem_of_getElem? hz)
      simp [he] at this
    split at hx
    · rename_i c1
      split at hy
      · rename_i c2; rw [c1, c2]
      · cases hx; exact absurd he.symm (no b y hy h0)
    · split at hy
      · cases hy; exact absurd he (no a x hx (by replace he : x.head = h := he; omega))
      · exact hN.uniq a b x y hx hy h0 he
  · rw [hnew] at hx
    split at hx
    · cases hx; rfl
    · exact hN.leaf a x hx h0
  · rw [hnew] at hx
    split at hx
    · cases hx; rfl
    · exact hN.to a x hx

set_option maxRecDepth 100000 in
set_option maxHeartbeats 1000000 in
theorem put_calls (gn base : Nat) (t : T) : ∀ (N : List Nd) (F G : Nat → Prop) (w : World) (x y lv : Value) (cs : List Value) (av : Nat → Value), T.good t = true → N.length + t.size ≤ 1000000 → IsF G w t x y → (∀ k, G k → k < base) → NetB F base w gn N lv cs av → Fresh N →
    Calls Try.prog 22 #[.pointer (some ⟨gn, 0, none⟩), .agg #[x, y]] w (PutPost gn base F (putP N t) w) := by
  induction t using T.ind with
  | h hd ar ih =>
  intro N F G w x y lv cs av hg hsz ht hG hN hF
  obtain ⟨rfl, hi64, hl⟩ := ht.parts
  obtain ⟨A, c, rfl, hc1, hc2⟩ := hl.shapeT
  simp only [T.head_mk, T.args_mk] at *
  have HL := Lib.hid hl
  have IH := Lib.hid ih
  have HGD := Lib.hid hg
  have HG := Lib.hid hG
  have HF := Lib.hid hF
  have HSZ := Lib.hid hsz
  have HI := Lib.hid hi64
  have hnl : N.length ≤ 1000000 := by omega
  have hgn := (hN.lt gn hN.fn).2
  have hbs : base ≤ w.heap.size := by have := (hN.lt gn hN.fn).1; omega
  obtain ⟨Al, cl, rfl⟩ := own_shape hN.own
  have hkeep : ∀ k, F k → (w.alloc (.cells #[.int .i64 hd, .slice A ar.length c] 24)).heap[k]? = w.heap[k]? := fun k hk => Below.heap_alloc _ _ _ (hN.lt k hk).2
  have hN0 := hN.keep hkeep (by simp)
  have HN0 := Lib.hid hN0
  have HN := Lib.hid hN
  clear hl ht ih hg hG hF hsz hi64 hN hN0 hkeep
  have kn := cell_of_block HN0.out.at_ (j := 0) (v := .slice Al N.length cl) rfl
  go_enter Try.func22, Try.ntmps22
  go_upto_block 0 with fail
  go_cut [5] (fun _ wc => Below (w.heap.size + 1) (w.alloc (.cells #[.int .i64 hd, .slice A ar.length c] 24)) wc ∧ (if hd < 0 then N.findIdx? (fun x => x.head == hd) else none) = none)
  case first =>
    go_wp2
    go_loopg [5] (N.length + 1) (fun k i wr => ∃ d : Nat, d + k = N.length + 1 ∧ i = .int .i64 d ∧ (∀ (j : Nat) (nd : Nd), j < d → N[j]? = some nd → nd.head ≠ hd) ∧ Below (w.heap.size + 1) (w.alloc (.cells #[.int .i64 hd, .slice A ar.length c] 24)) wr)
    case atStart => exact ⟨0, by omega, rfl, fun j nd h => by omega, Below.refl _ _⟩
    case round =>
      obtain ⟨d, hdk, rfl, hno, hB⟩ := hrel
      have HNO := Lib.hid hno; clear hno
      have hN1 := HN0.out.keep (w1 := wr) (fun k hk => hB.block k (by have := (HN0.out.lt k hk).2; simpa using this)) hB.size
      have HN1 := Lib.hid hN1
      have kn1 := cell_of_block hN1.at_ (j := 0) (v := .slice Al N.length cl) rfl
      have kb : wr.heap[w.heap.size]? = some (.cells #[.int .i64 hd, .slice A ar.length c] 24 (0, 0)) := (hB.block w.heap.size (by omega)).trans (heap_alloc_new _ _)
      have kh := cell_of_block kb (j := 0) (v := .int .i64 hd) rfl
      have hzw : w.heap.size < wr.heap.size := by have := hB.size; simp at this; omega
      have hgw : gn < wr.heap.size := by omega
      have HB := Lib.hid hB
      clear hN1 kb hB kn
      by_cases hdl : d < N.length
      · by_cases h0 : hd < 0
        · have hgi : N[d]? = some N[d] := List.getElem?_eq_getElem hdl
          obtain ⟨g, cap, e1, hg1, -, -, hcs⟩ := HN1.out.cells (by omega)
          obtain ⟨c0, -, -⟩ := HN1.out.cell d _ hgi
          have k0 := (hcs _ _ c0).1
          have hgg := (HN1.out.lt g hg1).2
          cases e1
          clear hcs c0
          have HGI := Lib.hid hgi; clear hgi
          by_cases he : N[d].head = hd
          · have heq : (N[d].head == hd) = true := by simp [he]
            have HE := Lib.hid he; clear he
            have hfin : Hid (putP N (.mk hd ar) = (N, d)) := by
              have h1 : N.findIdx? (fun x => x.head == hd) = some d := List.findIdx?_eq_some_iff_getElem.2 ⟨hdl, by rw [HE.out]; simp, fun j hj => by
                have := HNO.out j N[j] hj (List.getElem?_eq_getElem (by omega)); simp [this]⟩
              have : putP N (.mk hd ar) = (N, d) := by simp only [putP]; rw [if_pos h0, h1]
              exact this
            go_wp2
            refine wp_mix 10 85 (fun ix _ u => match ix with | 0 => u = .pointer (some ⟨gn, 0, none⟩) | 1 => u = .pointer (some ⟨gn, 0, none⟩) | 2 => u = .pointer (some ⟨gn, 0, none⟩) | 3 => u = .slice (some ⟨g, 0, none⟩) N.length cl | 4 => u = .int .i64 (d : Int) | 5 => u = .pointer (some ⟨g, d * 3, none⟩) | 6 => u = .pointer (some ⟨g, d * 3, none⟩) | 7 => u = .int .i64 N[d].head | 8 => u = .pointer (some ⟨w.heap.size, 0, none⟩) | 9 => u = .int .i64 hd | _ => True) (by kernel_rfl) rfl (by decide +kernel) (fun ix W W' u _ h => h) ?_ ?_
            · refine goes_cons rfl ?_ (goes_cons rfl ?_ (goes_cons rfl ?_ (goes_cons rfl ?_ (goes_cons rfl ?_ (goes_cons rfl ?_ (goes_cons rfl ?_ (goes_cons rfl ?_ (goes_cons rfl ?_ (goes_cons rfl ?_ (goes_nil))))))))))
              · intro ρ W hW hc hg hf hbase hdeps
                obtain ⟨hk, -⟩ := bcell hW
                have r0 := hbase 0 (by kernel_rfl)
                clear hbase hdeps
                go_simp
                exact ⟨Below.refl _ _, rfl⟩
              · intro ρ W hW hc hg hf hbase hdeps
                obtain ⟨hk, -⟩ := bcell hW
                have r23 : ρ (.tmp 23) = .pointer (some ⟨gn, 0, none⟩) := hdeps 0 _ 23 (by kernel_rfl) rfl rfl
                clear hbase hdeps
                go_simp
                exact ⟨Below.refl _ _, rfl⟩
              · intro ρ W hW hc hg hf hbase hdeps
                obtain ⟨hk, -⟩ := bcell hW
                have r24 : ρ (.tmp 24) = .pointer (some ⟨gn, 0, none⟩) := hdeps 1 _ 24 (by kernel_rfl) rfl rfl
                clear hbase hdeps
                go_simp
                exact ⟨Below.refl _ _, rfl⟩
              · intro ρ W hW hc hg hf hbase hdeps
                obtain ⟨hk, -⟩ := bcell hW
                have r25 : ρ (.tmp 25) = .pointer (some ⟨gn, 0, none⟩) := hdeps 2 _ 25 (by kernel_rfl) rfl rfl
                clear hbase hdeps
                go_simp
                exact ⟨Below.refl _ _, rfl⟩
              · intro ρ W hW hc hg hf hbase hdeps
                obtain ⟨hk, -⟩ := bcell hW
                have r5 := hbase 5 (by kernel_rfl)
                clear hbase hdeps
                go_simp
                exact ⟨Below.refl _ _, rfl⟩
              · intro ρ W hW hc hg hf hbase hdeps
                obtain ⟨hk, -⟩ := bcell hW
                have r26 : ρ (.tmp 26) = .slice (some ⟨g, 0, none⟩) N.length cl := hdeps 3 _ 26 (by kernel_rfl) rfl rfl
                have r27 : ρ (.tmp 27) = .int .i64 (d : Int) := hdeps 4 _ 27 (by kernel_rfl) rfl rfl
                clear hbase hdeps
                go_simp
                exact ⟨Below.refl _ _, rfl⟩
              · intro ρ W hW hc hg hf hbase hdeps
                obtain ⟨hk, -⟩ := bcell hW
                have r28 : ρ (.tmp 28) = .pointer (some ⟨g, d * 3, none⟩) := hdeps 5 _ 28 (by kernel_rfl) rfl rfl
                clear hbase hdeps
                go_simp
                exact ⟨Below.refl _ _, rfl⟩
              · intro ρ W hW hc hg hf hbase hdeps
                obtain ⟨hk, -⟩ := bcell hW
                have r29 : ρ (.tmp 29) = .pointer (some ⟨g, d * 3, none⟩) := hdeps 6 _ 29 (by kernel_rfl) rfl rfl
                clear hbase hdeps
                go_simp
                exact ⟨Below.refl _ _, rfl⟩
              · intro ρ W hW hc hg hf hbase hdeps
                obtain ⟨hk, -⟩ := bcell hW
                have r3 := hbase 3 (by kernel_rfl)
                clear hbase hdeps
                go_simp
                exact ⟨Below.refl _ _, rfl⟩
              · intro ρ W hW hc hg hf hbase hdeps
                obtain ⟨hk, -⟩ := bcell hW
                have r31 : ρ (.tmp 31) = .pointer (some ⟨w.heap.size, 0, none⟩) := hdeps 8 _ 31 (by kernel_rfl) rfl rfl
                clear hbase hdeps
                go_simp
                exact ⟨Below.refl _ _, rfl⟩
            · intro us W1 hW1 hus
              have hu0 : us 0 = .pointer (some ⟨gn, 0, none⟩) := hus 0 (by decide)
              have hu1 : us 1 = .pointer (some ⟨gn, 0, none⟩) := hus 1 (by decide)
              have hu2 : us 2 = .pointer (some ⟨gn, 0, none⟩) := hus 2 (by decide)
              have hu3 : us 3 = .slice (some ⟨g, 0, none⟩) N.length cl := hus 3 (by decide)
              have hu4 : us 4 = .int .i64 (d : Int) := hus 4 (by decide)
              have hu5 : us 5 = .pointer (some ⟨g, d * 3, none⟩) := hus 5 (by decide)
              have hu6 : us 6 = .pointer (some ⟨g, d * 3, none⟩) := hus 6 (by decide)
              have hu7 : us 7 = .int .i64 N[d].head := hus 7 (by decide)
              have hu8 : us 8 = .pointer (some ⟨w.heap.size, 0, none⟩) := hus 8 (by decide)
              have hu9 : us 9 = .int .i64 hd := hus 9 (by decide)
              clear hus
              simp only [List.drop_succ_cons, List.drop_zero, List.take_succ_cons, List.take_zero, fill, Act.put, List.setIfInBounds_toArray, List.set_cons_succ, List.set_cons_zero, hu0, hu1, hu2, hu3, hu4, hu5, hu6, hu7, hu8, hu9]
              clear hu0 hu1 hu2 hu3 hu4 hu5 hu6 hu7 hu8 hu9
              have HX := Lib.hid (HB.out.trans (hW1.mono (by omega)))
              clear hW1
              go_wp2
              go_ret
              show PutPost gn base F (putP N (.mk hd ar)) w _ _
              rw [hfin.out]
              refine ⟨_, cs, av, F, rfl, HN0.out.keep (fun k hk => HX.out.block k (by have := (HN0.out.lt k hk).2; simpa using this)) (by have := HX.out.size; simpa using this), fun k hk => .inl hk, fun k hk _ => ?_, ?_⟩
              · exact (HX.out.block k (by omega)).trans (Below.heap_alloc _ _ _ hk)
              · exact ((Below.refl _ _).alloc hbs _).trans (HX.out.mono (by omega))
          · have heq : (N[d].head == hd) = false := by simp [he]
            have HE := Lib.hid he; clear he
            go_wp2
            refine wp_mix 10 85 (fun ix _ u => match ix with | 0 => u = .pointer (some ⟨gn, 0, none⟩) | 1 => u = .pointer (some ⟨gn, 0, none⟩) | 2 => u = .pointer (some ⟨gn, 0, none⟩) | 3 => u = .slice (some ⟨g, 0, none⟩) N.length cl | 4 => u = .int .i64 (d : Int) | 5 => u = .pointer (some ⟨g, d * 3, none⟩) | 6 => u = .pointer (some ⟨g, d * 3, none⟩) | 7 => u = .int .i64 N[d].head | 8 => u = .pointer (some ⟨w.heap.size, 0, none⟩) | 9 => u = .int .i64 hd | _ => True) (by kernel_rfl) rfl (by decide +kernel) (fun ix W W' u _ h => h) ?_ ?_
            · refine goes_cons rfl ?_ (goes_cons rfl ?_ (goes_cons rfl ?_ (goes_cons rfl ?_ (goes_cons rfl ?_ (goes_cons rfl ?_ (goes_cons rfl ?_ (goes_cons rfl ?_ (goes_cons rfl ?_ (goes_cons rfl ?_ (goes_nil))))))))))
              · intro ρ W hW hc hg hf hbase hdeps
                obtain ⟨hk, -⟩ := bcell hW
                have r0 := hbase 0 (by kernel_rfl)
                clear hbase hdeps
                go_simp
                exact ⟨Below.refl _ _, rfl⟩
              · intro ρ W hW hc hg hf hbase hdeps
                obtain ⟨hk, -⟩ := bcell hW
                have r23 : ρ (.tmp 23) = .pointer (some ⟨gn, 0, none⟩) := hdeps 0 _ 23 (by kernel_rfl) rfl rfl
                clear hbase hdeps
                go_simp
                exact ⟨Below.refl _ _, rfl⟩
              · intro ρ W hW hc hg hf hbase hdeps
                obtain ⟨hk, -⟩ := bcell hW
                have r24 : ρ (.tmp 24) = .pointer (some ⟨gn, 0, none⟩) := hdeps 1 _ 24 (by kernel_rfl) rfl rfl
                clear hbase hdeps
                go_simp
                exact ⟨Below.refl _ _, rfl⟩
              · intro ρ W hW hc hg hf hbase hdeps
                obtain ⟨hk, -⟩ := bcell hW
                have r25 : ρ (.tmp 25) = .pointer (some ⟨gn, 0, none⟩) := hdeps 2 _ 25 (by kernel_rfl) rfl rfl
                clear hbase hdeps
                go_simp
                exact ⟨Below.refl _ _, rfl⟩
              · intro ρ W hW hc hg hf hbase hdeps
                obtain ⟨hk, -⟩ := bcell hW
                have r5 := hbase 5 (by kernel_rfl)
                clear hbase hdeps
                go_simp
                exact ⟨Below.refl _ _, rfl⟩
              · intro ρ W hW hc hg hf hbase hdeps
                obtain ⟨hk, -⟩ := bcell hW
                have r26 : ρ (.tmp 26) = .slice (some ⟨g, 0, none⟩) N.length cl := hdeps 3 _ 26 (by kernel_rfl) rfl rfl
                have r27 : ρ (.tmp 27) = .int .i64 (d : Int) := hdeps 4 _ 27 (by kernel_rfl) rfl rfl
                clear hbase hdeps
                go_simp
                exact ⟨Below.refl _ _, rfl⟩
              · intro ρ W hW hc hg hf hbase hdeps
                obtain ⟨hk, -⟩ := bcell hW
                have r28 : ρ (.tmp 28) = .pointer (some ⟨g, d * 3, none⟩) := hdeps 5 _ 28 (by kernel_rfl) rfl rfl
                clear hbase hdeps
                go_simp
                exact ⟨Below.refl _ _, rfl⟩
              · intro ρ W hW hc hg hf hbase hdeps
                obtain ⟨hk, -⟩ := bcell hW
                have r29 : ρ (.tmp 29) = .pointer (some ⟨g, d * 3, none⟩) := hdeps 6 _ 29 (by kernel_rfl) rfl rfl
                clear hbase hdeps
                go_simp
                exact ⟨Below.refl _ _, rfl⟩
              · intro ρ W hW hc hg hf hbase hdeps
                obtain ⟨hk, -⟩ := bcell hW
                have r3 := hbase 3 (by kernel_rfl)
                clear hbase hdeps
                go_simp
                exact ⟨Below.refl _ _, rfl⟩
              · intro ρ W hW hc hg hf hbase hdeps
                obtain ⟨hk, -⟩ := bcell hW
                have r31 : ρ (.tmp 31) = .pointer (some ⟨w.heap.size, 0, none⟩) := hdeps 8 _ 31 (by kernel_rfl) rfl rfl
                clear hbase hdeps
                go_simp
                exact ⟨Below.refl _ _, rfl⟩
            · intro us W1 hW1 hus
              have hu0 : us 0 = .pointer (some ⟨gn, 0, none⟩) := hus 0 (by decide)
              have hu1 : us 1 = .pointer (some ⟨gn, 0, none⟩) := hus 1 (by decide)
              have hu2 : us 2 = .pointer (some ⟨gn, 0, none⟩) := hus 2 (by decide)
              have hu3 : us 3 = .slice (some ⟨g, 0, none⟩) N.length cl := hus 3 (by decide)
              have hu4 : us 4 = .int .i64 (d : Int) := hus 4 (by decide)
              have hu5 : us 5 = .pointer (some ⟨g, d * 3, none⟩) := hus 5 (by decide)
              have hu6 : us 6 = .pointer (some ⟨g, d * 3, none⟩) := hus 6 (by decide)
              have hu7 : us 7 = .int .i64 N[d].head := hus 7 (by decide)
              have hu8 : us 8 = .pointer (some ⟨w.heap.size, 0, none⟩) := hus 8 (by decide)
              have hu9 : us 9 = .int .i64 hd := hus 9 (by decide)
              clear hus
              simp only [List.drop_succ_cons, List.drop_zero, List.take_succ_cons, List.take_zero, fill, Act.put, List.setIfInBounds_toArray, List.set_cons_succ, List.set_cons_zero, hu0, hu1, hu2, hu3, hu4, hu5, hu6, hu7, hu8, hu9]
              clear hu0 hu1 hu2 hu3 hu4 hu5 hu6 hu7 hu8 hu9
              have HX := Lib.hid (HB.out.trans (hW1.mono (by omega)))
              clear hW1
              go_wp2
              go_roundg (gk - 1)
              case rel => exact ⟨d + 1, by omega, by go_num, fun j nd hj e => by
                by_cases cj : j = d
                · subst cj; rw [HGI.out] at e; cases e; exact HE.out
                · exact HNO.out j nd (by omega) e, HX.out⟩
              case measure => omega
        · have hfin : Hid ((if hd < 0 then N.findIdx? (fun x => x.head == hd) else none) = none) := by
            have : (if hd < 0 then N.findIdx? (fun x => x.head == hd) else none) = none := if_neg h0
            exact this
          go_wp2
          go_meet
          exact ⟨HB.out, hfin.out⟩
      · have hfin : Hid ((if hd < 0 then N.findIdx? (fun x => x.head == hd) else none) = none) := by
          have : (if hd < 0 then N.findIdx? (fun x => x.head == hd) else none) = none := by
            split
            · refine List.findIdx?_eq_none_iff.2 fun x hx => ?_
              obtain ⟨j, hj, rfl⟩ := List.mem_iff_getElem.1 hx
              have := HNO.out j N[j] (by omega) (List.getElem?_eq_getElem hj)
              simp [this]
            · rfl
          exact this
        go_wp2
        go_meet
        exact ⟨HB.out, hfin.out⟩
  case rest =>
    obtain ⟨hB, hnone⟩ := hcut
    have HNO := Lib.hid hnone
    have hN1 := HN0.out.keep (w1 := wc) (fun k hk => hB.block k (by have := (HN0.out.lt k hk).2; simpa using this)) hB.size
    have HN1 := Lib.hid hN1
    have kn1 := cell_of_block hN1.at_ (j := 0) (v := .slice Al N.length cl) rfl
    have kb : wc.heap[w.heap.size]? = some (.cells #[.int .i64 hd, .slice A ar.length c] 24 (0, 0)) := (hB.block w.heap.size (by omega)).trans (heap_alloc_new _ _)
    have kh := cell_of_block kb (j := 0) (v := .int .i64 hd) rfl
    have ka := cell_of_block kb (j := 1) (v := .slice A ar.length c) rfl
    have hzw : w.heap.size < wc.heap.size := by have := hB.size; simp at this; omega
    have hgw : gn < wc.heap.size := by omega
    have HB := Lib.hid hB
    clear hN1 kb hB hnone kn
    go_wp2
    refine wp_mix_pre [(0, .pointer (some ⟨gn, 0, none⟩))] [0] 9 85 (fun ix W u => match ix with | 0 => u = .pointer (some ⟨gn, 0, none⟩) | 1 => u = .pointer (some ⟨gn, 0, none⟩) | 2 => u = .pointer (some ⟨gn, 0, none⟩) | 3 => u = .pointer (some ⟨gn, 0, none⟩) | 4 => u = .slice Al N.length cl | 5 => u = .pointer (some ⟨w.heap.size, 0, none⟩) | 6 => u = .int .i64 hd | 7 => u = .agg #[.int .i64 hd, .slice none 0 0, .int .i64 (-1)] | 8 => ∃ b, u = .slice (some ⟨b, 0, none⟩) 1 1 ∧ wc.heap.size ≤ b ∧ W.heap[b]? = some (.cells #[.int .i64 hd, .slice none 0 0, .int .i64 (-1)] 61 (0, 0)) | _ => True) rfl (by kernel_rfl) rfl (by decide +kernel) (fun ix W W' u hb h => by match ix, h with | 0, h => exact h | 1, h => exact h | 2, h => exact h | 3, h => exact h | 4, h => exact h | 5, h => exact h | 6, h => exact h | 7, h => exact h | 8, h => exact (by obtain ⟨b, e, h1, h2⟩ := h; exact ⟨b, e, h1, (hb.block b (Array.getElem?_eq_some_iff.1 h2).1).trans h2⟩) | _ + 9, h => exact h) (by kernel_rfl) (fun c a d v w h => by cases d <;> exact h) (by kernel_rfl) (by decide) (by kernel_rfl) ?_ ?_ ?_
    · intro i v h
      simp only [List.mem_cons, List.not_mem_nil, or_false, Prod.mk.injEq] at h
      rcases h with ⟨rfl, rfl⟩
      · exact ⟨fun _ => rfl, fun o w ho => by cases ho; rfl⟩
    · refine goes_cons rfl ?_ (goes_cons rfl ?_ (goes_cons rfl ?_ (goes_cons rfl ?_ (goes_cons rfl ?_ (goes_cons rfl ?_ (goes_cons rfl ?_ (goes_cons rfl ?_ (goes_cons rfl ?_ (goes_nil)))))))))
      · intro ρ W hW hc hg hf hbase hdeps
        obtain ⟨hk, -⟩ := bcell hW
        have r0 := hbase 0 (by kernel_rfl)
        clear hbase hdeps
        go_simp
        exact ⟨Below.refl _ _, rfl⟩
      · intro ρ W hW hc hg hf hbase hdeps
        obtain ⟨hk, -⟩ := bcell hW
        have r0 := hbase 0 (by kernel_rfl)
        clear hbase hdeps
        go_simp
        exact ⟨Below.refl _ _, rfl⟩
      · intro ρ W hW hc hg hf hbase hdeps
        obtain ⟨hk, -⟩ := bcell hW
        have r41 : ρ (.tmp 41) = .pointer (some ⟨gn, 0, none⟩) := hdeps 1 _ 41 (by kernel_rfl) rfl rfl
        clear hbase hdeps
        go_simp
        exact ⟨Below.refl _ _, rfl⟩
      · intro ρ W hW hc hg hf hbase hdeps
        obtain ⟨hk, -⟩ := bcell hW
        have r42 : ρ (.tmp 42) = .pointer (some ⟨gn, 0, none⟩) := hdeps 2 _ 42 (by kernel_rfl) rfl rfl
        clear hbase hdeps
        go_simp
        exact ⟨Below.refl _ _, rfl⟩
      · intro ρ W hW hc hg hf hbase hdeps
        obtain ⟨hk, -⟩ := bcell hW
        have r43 : ρ (.tmp 43) = .pointer (some ⟨gn, 0, none⟩) := hdeps 3 _ 43 (by kernel_rfl) rfl rfl
        clear hbase hdeps
        go_simp
        exact ⟨Below.refl _ _, rfl⟩
      · intro ρ W hW hc hg hf hbase hdeps
        obtain ⟨hk, -⟩ := bcell hW
        have r3 := hbase 3 (by kernel_rfl)
        clear hbase hdeps
        go_simp
        exact ⟨Below.refl _ _, rfl⟩
      · intro ρ W hW hc hg hf hbase hdeps
        obtain ⟨hk, -⟩ := bcell hW
        have r45 : ρ (.tmp 45) = .pointer (some ⟨w.heap.size, 0, none⟩) := hdeps 5 _ 45 (by kernel_rfl) rfl rfl
        clear hbase hdeps
        go_simp
        exact ⟨Below.refl _ _, rfl⟩
      · intro ρ W hW hc hg hf hbase hdeps
        obtain ⟨hk, -⟩ := bcell hW
        have r46 : ρ (.tmp 46) = .int .i64 hd := hdeps 6 _ 46 (by kernel_rfl) rfl rfl
        clear hbase hdeps
        go_simp
        exact ⟨Below.refl _ _, rfl⟩
      · intro ρ W hW hc hg hf hbase hdeps
        obtain ⟨hk, -⟩ := bcell hW
        have r47 : ρ (.tmp 47) = .agg #[.int .i64 hd, .slice none 0 0, .int .i64 (-1)] := hdeps 7 _ 47 (by kernel_rfl) rfl rfl
        clear hbase hdeps
        go_simp
        exact ⟨(Below.refl _ _).alloc (Nat.le_refl _) _, _, rfl, hW.size, heap_alloc_new _ _⟩
    · intro us W1 hW1 hus
      have hu0 : us 0 = .pointer (some ⟨gn, 0, none⟩) := hus 0 (by decide)
      have hu1 : us 1 = .pointer (some ⟨gn, 0, none⟩) := hus 1 (by decide)
      have hu2 : us 2 = .pointer (some ⟨gn, 0, none⟩) := hus 2 (by decide)
      have hu3 : us 3 = .pointer (some ⟨gn, 0, none⟩) := hus 3 (by decide)
      have hu4 : us 4 = .slice Al N.length cl := hus 4 (by decide)
      have hu5 : us 5 = .pointer (some ⟨w.heap.size, 0, none⟩) := hus 5 (by decide)
      have hu6 : us 6 = .int .i64 hd := hus 6 (by decide)
      have hu7 : us 7 = .agg #[.int .i64 hd, .slice none 0 0, .int .i64 (-1)] := hus 7 (by decide)
      have hu8 : (fun u W => ∃ b, u = .slice (some ⟨b, 0, none⟩) 1 1 ∧ wc.heap.size ≤ b ∧ W.heap[b]? = some (.cells #[.int .i64 hd, .slice none 0 0, .int .i64 (-1)] 61 (0, 0))) (us 8) W1 := hus 8 (by decide)
      dsimp only at hu8
      clear hus
      simp only [List.drop_succ_cons, List.drop_zero, List.take_succ_cons, List.take_zero, fill, Act.put, List.setIfInBounds_toArray, List.set_cons_succ, List.set_cons_zero, hu0, hu1, hu2, hu3, hu4, hu5, hu6, hu7]
      clear hu0 hu1 hu2 hu3 hu4 hu5 hu6 hu7
      generalize us 8 = u8 at *
      obtain ⟨bn, rfl, hbn, hblk⟩ := hu8
      have HB1 := Lib.hid (HB.out.trans (hW1.mono (by omega)))
      have hN2 := HN1.out.keep (w1 := W1) (fun k hk => hW1.block k (HN1.out.lt k hk).2) hW1.size
      have HN2 := Lib.hid hN2
      have hzW := hW1.size
      clear hN2 hW1 kn1 ka kh HN1 HN0
      refine wp_push base ?a1 (.tmp 44) (.tmp 48) 51 61 (.agg #[.int .i64 0, .slice none 0 0, .int .i64 0]) 3 40 ?a2 Try.underlying51 Try.infoN rfl (by decide) (by decide) (.slice Al N.length cl) N.length cs ?a4 HN2.out.own bn 1 [.int .i64 hd, .slice none 0 0, .int .i64 (-1)] ?a5 rfl hblk ?_ (by omega) (by omega) ?_
      case a1 => rfl
      case a2 => rfl
      case a4 => rfl
      case a5 => rfl
      · intro u hu
        simp only [List.mem_cons, List.not_mem_nil, or_false] at hu
        rcases hu with rfl | rfl | rfl <;> rfl
      · intro v1 w1 ho1 hg1 hat1
        obtain ⟨A1, c1, rfl⟩ := own_shape ho1
        have hN3 := HN2.out.push ho1 hg1 hat1 (by omega) HI.out (by omega) rfl
        have HN3 := Lib.hid hN3
        have HF3 : Hid (∀ k, (F k ∨ (Value.slice A1 (N.length + 1) c1).ownBlock = some k) → F k ∨ w.heap.size < k) := by
          have : ∀ k, (F k ∨ (Value.slice A1 (N.length + 1) c1).ownBlock = some k) → F k ∨ w.heap.size < k := by
            rintro k (hk | hk)
            · exact .inl hk
            · rcases hat1 with e | e
              · rw [e] at hk; exact .inl (HN2.out.fl k hk)
              · rw [e] at hk; cases hk; exact .inr (by omega)
          exact this
        have hbl := hg1.block gn (by omega) (fun e => HN2.out.ne_gn e.symm)
        have kg := cell_of_block (hbl.trans HN2.out.at_) (j := 0) (v := .slice Al N.length cl) rfl
        have kf := frozen_of_block (hbl.trans HN2.out.at_) 0
        have hB2 : Below base (w.alloc (.cells #[.int .i64 hd, .slice A ar.length c] 24)) (w1.setCell ⟨gn, 0, none⟩ (.slice A1 (N.length + 1) c1)) :=
          ((HB1.out.mono (by omega)).grown hg1 (by omega) (fun k hk => (HN2.out.lt k (HN2.out.fl k hk)).1)).setCell (p := ⟨gn, 0, none⟩) (HN2.out.lt gn HN2.out.fn).1 (.slice A1 (N.length + 1) c1)
        have HB2 := Lib.hid hB2
        have hK2 : ∀ k, k ≤ w.heap.size → ¬ F k → (w1.setCell ⟨gn, 0, none⟩ (.slice A1 (N.length + 1) c1)).heap[k]? = (w.alloc (.cells #[.int .i64 hd, .slice A ar.length c] 24)).heap[k]? := by
          intro k hk hFk
          rw [Below.heap_setCell _ _ _ _ (fun e => hFk (by rw [e]; exact HN2.out.fn))]
          exact (hg1.block k (by omega) (fun e => hFk (HN2.out.fl k e.symm))).trans (HB1.out.block k (by omega))
        have HK2 := Lib.hid hK2
        clear hN3 hB2 hK2 hblk ho1 hg1 hat1 hbl HB HB1 HN2 hzW hgw hzw hbn
        have HFr : Hid (Fresh (N ++ [⟨hd, [], -1⟩])) := by
          have := fresh_push HF.out HNO.out
          exact this
        have hlen1 : (N ++ [(⟨hd, [], -1⟩ : Nd)]).length = N.length + 1 := by simp
        have HG1 : Hid ((N ++ [(⟨hd, [], -1⟩ : Nd)])[N.length]? = some ⟨hd, [], -1⟩) := by
          have : (N ++ [(⟨hd, [], -1⟩ : Nd)])[N.length]? = some ⟨hd, [], -1⟩ := by simp
          exact this
        have hs1 : T.size (.mk hd ar) = 1 + T.sizeL ar := by simp [T.size, Nat.add_comm]
        have HS1 : Hid (N.length + 1 + T.sizeL ar ≤ 1000000) := by
          have : N.length + 1 + T.sizeL ar ≤ 1000000 := by have := HSZ.out; omega
          exact this
        have HFIN : Hid (putP N (.mk hd ar) = (putL (N ++ [⟨hd, [], -1⟩]) N.length ar, N.length)) := by
          have : putP N (.mk hd ar) = (putL (N ++ [⟨hd, [], -1⟩]) N.length ar, N.length) := by simp only [putP]; rw [HNO.out]
          exact this
        obtain ⟨g1, _, _, _, g5⟩ := T.good_parts HGD.out
        have HG0 : Hid (ar ≠ [] → 0 ≤ hd) := by
          have : ar ≠ [] → 0 ≤ hd := fun hne => by
            by_cases c : hd < 0
            · exact absurd (g1 c) hne
            · omega
          exact this
        have HG5 := Lib.hid g5
        clear g1 g5 hs1 HNO HSZ HGD
        generalize hM0 : N ++ [(⟨hd, [], -1⟩ : Nd)] = M0 at *
        go_wp2_with fail
        go_loopg [7] (ar.length + 1) (fun k i wr => ∃ (d : Nat) (M : List Nd) (lv' : Value) (cs' : List Value) (av' : Nat → Value) (F' : Nat → Prop) (ks : List Nat), d + k = ar.length + 1 ∧ i = .int .i64 d ∧ d ≤ ar.length ∧ NetB F' base wr gn M lv' cs' av' ∧
          (∀ k, F' k → F k ∨ w.heap.size < k) ∧ (∀ k, k ≤ w.heap.size → ¬ F k → wr.heap[k]? = (w.alloc (.cells #[.int .i64 hd, .slice A ar.length c] 24)).heap[k]?) ∧ Below base (w.alloc (.cells #[.int .i64 hd, .slice A ar.length c] 24)) wr ∧
          Fresh M ∧ M[N.length]? = some ⟨hd, ks, -1⟩ ∧ M.length + T.sizeL (ar.drop d) ≤ 1000000 ∧ putL M N.length (ar.drop d) = putL M0 N.length ar ∧ ks.length = d)
        case atStart => exact ⟨0, M0, _, _, _, _, [], by omega, rfl, by omega, HN3.out, HF3.out, HK2.out, HB2.out, HFr.out, HG1.out, by rw [hlen1]; exact HS1.out, rfl, rfl⟩
        case round =>
          clear HN3 HF3 HK2 HB2 kg kf
          obtain ⟨d, M, lv', cs', av', F', ks, hdk, rfl, hdl, hN4, hF4, hK4, hB4, hFr4, hg4, hs4, hp4, hks⟩ := hrel
          have kb : wr.heap[w.heap.size]? = some (.cells #[.int .i64 hd, .slice A ar.length c] 24 (0, 0)) := (hK4 w.heap.size (Nat.le_refl _) (fun h => by have := (HN.out.lt _ h).2; omega)).trans (heap_alloc_new _ _)
          have kh := cell_of_block kb (j := 0) (v := .int .i64 hd) rfl
          have ka := cell_of_block kb (j := 1) (v := .slice A ar.length c) rfl
          have hMl : N.length < M.length := (List.getElem?_eq_some_iff.1 hg4).1
          obtain ⟨Ah, ch, rfl⟩ := own_shape hN4.own
          have hzb := hB4.size
          have hsl := Sl.move (w1 := wr) (fun b hb => (hB4.block b (HG.out b hb)).trans (Below.heap_alloc w _ b (by have := HG.out b hb; omega))) HL.out
          have HN4 := Lib.hid hN4
          have HF4 := Lib.hid hF4
          have HK4 := Lib.hid hK4
          have HB4 := Lib.hid hB4
          have HSL : Hid (ar.length ≤ 1000000) := by
            have : ar.length ≤ 1000000 := by have := HS1.out; have := T.length_le_sizeL ar; omega
            exact this
          have HFr4 := Lib.hid hFr4
          have HG4 := Lib.hid hg4
          have HS4 := Lib.hid hs4
          have HP4 := Lib.hid hp4
          have HKS := Lib.hid hks
          clear hN4 hF4 hK4 hB4 hFr4 hg4 hs4 hp4 kb hks
          have hzw : w.heap.size < wr.heap.size := by simp at hzb; omega
          by_cases hdl2 : d < ar.length
          · obtain ⟨b, o, rfl, hGb, hlt, hcell⟩ := hsl.cells (by omega)
            obtain ⟨x, y, hx, hy, htm⟩ := hcell d hdl2
            have hmem : ar[d] ∈ ar := List.getElem_mem hdl2
            have hdrop : ar.drop d = ar[d] :: ar.drop (d + 1) := List.drop_eq_getElem_cons hdl2
            have hsz4 : M.length + (ar[d].size + T.sizeL (ar.drop (d + 1))) ≤ 1000000 := by have := HS4.out; rw [hdrop] at this; simpa [T.sizeL] using this
            have ihd := IH.out ar[d] hmem M F' G wr x y _ cs' av' (HG5.out _ hmem) (by omega) htm HG.out HN4.out HFr4.out
            have hput := putP_put ar[d] M HFr4.out (HG5.out _ hmem)
            have hp5 := HP4.out
            rw [hdrop] at hp5
            simp only [putL] at hp5
            obtain ⟨M2, q, hMq⟩ : ∃ M2 q, putP M ar[d] = (M2, q) := ⟨_, _, rfl⟩
            rw [hMq] at ihd hput hp5
            simp only at hput hp5
            have IHD := Lib.hid ihd
            have HPUT := Lib.hid hput
            have HP5 := Lib.hid hp5
            have HS5 := Lib.hid hsz4
            clear ihd hput hp5 hcell hsl hmem hdrop hMq hsz4
            have q4 : b < wr.heap.size := hlt
            go_wp2_with (go_at_call 22; refine IHD.out.mono ?_; rintro e w2 ⟨lv2, cs2, av2, F2, rfl, hN5, hF5, hK5, hB5⟩)
            change NetB F2 base w2 gn M2 lv2 cs2 av2 at hN5
            have hg5 : M2[N.length]? = some ⟨hd, ks, -1⟩ := HPUT.out.onto _ _ HG4.out
            have hM2l : N.length < M2.length := (List.getElem?_eq_some_iff.1 hg5).1
            have hsm := HPUT.out.small
            obtain ⟨g, cap, rfl, hgF, kgn, kfn, hcs5⟩ := hN5.cells (by omega)
            obtain ⟨-, c15, -⟩ := hN5.cell _ _ hg5
            obtain ⟨kq0, kqf0⟩ := hcs5 _ _ c15
            obtain ⟨hra, hr8⟩ := hN5.args _ _ hg5
            have hra' := hra
            obtain ⟨An, cn, hav⟩ := own_shape hra
            rw [hav] at kq0 hra'
            have hwg := (hN5.lt g hgF).2
            have hwn := (hN5.lt gn hN5.fn).2
            have hne1 : some gn ≠ (Value.slice An ks.length cn).ownBlock := fun e => (hN5.ne_arg hg5).1 (by rw [hav]; exact e.symm)
            have hne2 : some g ≠ (Value.slice An ks.length cn).ownBlock := fun e => (hN5.ne_arg hg5).2 g rfl (by rw [hav]; exact e.symm)
            have hne3 : g ≠ gn := fun e => hN5.ne_gn (by rw [← e]; rfl)
            have hbw : base ≤ w2.heap.size := by have := (hN5.lt gn hN5.fn).1; omega
            have i1 : (0 : Int) ≤ (N.length : Int) := by omega
            have i2 : (N.length : Int) < (M2.length : Int) := by omega
            have hksl : ks.length ≤ 1000000 := by have := HKS.out; have := HSL.out; omega
            have HOWF : Hid (∀ W : World, Below w2.heap.size w2 W → W.ownsRow base 3 1 (.slice An ks.length cn) ks.length (natV ks)) := by
              have : ∀ W : World, Below w2.heap.size w2 W → W.ownsRow base 3 1 (.slice An ks.length cn) ks.length (natV ks) := fun W hW => by
                have h1 : NetB F2 base W gn M2 (.slice (some ⟨g, 0, none⟩) M2.length cap) cs2 av2 := hN5.keep (fun k hk => hW.block k (hN5.lt k hk).2) hW.size
                have := (h1.args _ _ hg5).1
                rw [hav] at this
                exact this
              exact this
            have HAV : Hid (av2 N.length = .slice An ks.length cn) := by
              have : av2 N.length = .slice An ks.length cn := hav
              exact this
            have kq : w2.cell? ⟨g, N.length * 3 + 1, none⟩ = some (.slice An ks.length cn) := kq0
            have HN5 := Lib.hid hN5
            have HG5' := Lib.hid hg5
            have HF5 := Lib.hid hF5
            have HK5 := Lib.hid hK5
            have HB5 := Lib.hid hB5
            have HGB := Lib.hid hGb
            have HSM := Lib.hid hsm
            have HGF := Lib.hid hgF
            clear hN5 hg5 hF5 hK5 hB5 hra hra' hr8 hav kq0 hcs5 c15 hgF hGb hsm hx hy htm kh ka hzb
            have hgw := (HN5.out.lt gn HN5.out.fn).2
            refine wp_invJ 16 85 (fun ix u => match ix with | 0 => u = .pointer (some ⟨gn, 0, none⟩) | 1 => u = .pointer (some ⟨gn, 0, none⟩) | 2 => u = .pointer (some ⟨gn, 0, none⟩) | 3 => u = .slice (some ⟨g, 0, none⟩) M2.length cap | 4 => u = .int .i64 (N.length : Int) | 5 => u = .pointer (some ⟨gn, 0, none⟩) | 6 => u = .pointer (some ⟨gn, 0, none⟩) | 7 => u = .pointer (some ⟨gn, 0, none⟩) | 8 => u = .slice (some ⟨g, 0, none⟩) M2.length cap | 9 => u = .int .i64 (N.length : Int) | 10 => u = .pointer (some ⟨g, N.length * 3, none⟩) | 11 => u = .pointer (some ⟨g, N.length * 3 + 1, none⟩) | 12 => u = .slice An ks.length cn | 13 => u = .int .i64 (q : Int) | _ => True) (PushI w2 (Value.slice An ks.length cn).ownBlock base ks.length (natV ks) q) (by kernel_rfl) rfl (by decide +kernel) (PushI.start w2 _ base ks.length (natV ks) q) ?_ ?_
            · refine ⟨?_, ⟨?_, ⟨?_, ⟨?_, ⟨?_, ⟨?_, ⟨?_, ⟨?_, ⟨?_, ⟨?_, ⟨?_, ⟨?_, ⟨?_, ⟨?_, ⟨?_, ⟨?_, trivial⟩⟩⟩⟩⟩⟩⟩⟩⟩⟩⟩⟩⟩⟩⟩⟩
              · intro ρ W D us hI hcl hDi hdep hc hg hf hbase hdeps
                have r0 := hbase 0 (by kernel_rfl)
                clear hbase hdeps
                go_simp
                exact ⟨hI.keep _ _ (by decide) (by decide), rfl⟩
              · intro ρ W D us hI hcl hDi hdep hc hg hf hbase hdeps
                have r66 : ρ (.tmp 66) = .pointer (some ⟨gn, 0, none⟩) := (hdeps 0 _ 66 (by kernel_rfl) rfl rfl).1
                clear hbase hdeps
                go_simp
                exact ⟨hI.keep _ _ (by decide) (by decide), rfl⟩
              · intro ρ W D us hI hcl hDi hdep hc hg hf hbase hdeps
                have r67 : ρ (.tmp 67) = .pointer (some ⟨gn, 0, none⟩) := (hdeps 1 _ 67 (by kernel_rfl) rfl rfl).1
                clear hbase hdeps
                go_simp
                exact ⟨hI.keep _ _ (by decide) (by decide), rfl⟩
              · intro ρ W D us hI hcl hDi hdep hc hg hf hbase hdeps
                have r68 : ρ (.tmp 68) = .pointer (some ⟨gn, 0, none⟩) := (hdeps 2 _ 68 (by kernel_rfl) rfl rfl).1
                clear hbase hdeps
                have kk := (World.cell?_of_block (a := ⟨gn, 0, none⟩) (hI.heap hgw hne1)).trans kgn
                go_simp
                exact ⟨hI.keep _ _ (by decide) (by decide), rfl⟩
              · intro ρ W D us hI hcl hDi hdep hc hg hf hbase hdeps
                have r6 := hbase 6 (by kernel_rfl)
                clear hbase hdeps
                go_simp
                exact ⟨hI.keep _ _ (by decide) (by decide), rfl⟩
              · intro ρ W D us hI hcl hDi hdep hc hg hf hbase hdeps
                have r0 := hbase 0 (by kernel_rfl)
                clear hbase hdeps
                go_simp
                exact ⟨hI.keep _ _ (by decide) (by decide), rfl⟩
              · intro ρ W D us hI hcl hDi hdep hc hg hf hbase hdeps
                have r71 : ρ (.tmp 71) = .pointer (some ⟨gn, 0, none⟩) := (hdeps 5 _ 71 (by kernel_rfl) rfl rfl).1
                clear hbase hdeps
                go_simp
                exact ⟨hI.keep _ _ (by decide) (by decide), rfl⟩
              · intro ρ W D us hI hcl hDi hdep hc hg hf hbase hdeps
                have r72 : ρ (.tmp 72) = .pointer (some ⟨gn, 0, none⟩) := (hdeps 6 _ 72 (by kernel_rfl) rfl rfl).1
                clear hbase hdeps
                go_simp
                exact ⟨hI.keep _ _ (by decide) (by decide), rfl⟩
              · intro ρ W D us hI hcl hDi hdep hc hg hf hbase hdeps
                have r73 : ρ (.tmp 73) = .pointer (some ⟨gn, 0, none⟩) := (hdeps 7 _ 73 (by kernel_rfl) rfl rfl).1
                clear hbase hdeps
                have kk := (World.cell?_of_block (a := ⟨gn, 0, none⟩) (hI.heap hgw hne1)).trans kgn
                go_simp
                exact ⟨hI.keep _ _ (by decide) (by decide), rfl⟩
              · intro ρ W D us hI hcl hDi hdep hc hg hf hbase hdeps
                have r6 := hbase 6 (by kernel_rfl)
                clear hbase hdeps
                go_simp
                exact ⟨hI.keep _ _ (by decide) (by decide), rfl⟩
              · intro ρ W D us hI hcl hDi hdep hc hg hf hbase hdeps
                have r74 : ρ (.tmp 74) = .slice (some ⟨g, 0, none⟩) M2.length cap := (hdeps 8 _ 74 (by kernel_rfl) rfl rfl).1
                have r75 : ρ (.tmp 75) = .int .i64 (N.length : Int) := (hdeps 9 _ 75 (by kernel_rfl) rfl rfl).1
                clear hbase hdeps
                go_simp
                exact ⟨hI.keep _ _ (by decide) (by decide), rfl⟩
              · intro ρ W D us hI hcl hDi hdep hc hg hf hbase hdeps
                have r76 : ρ (.tmp 76) = .pointer (some ⟨g, N.length * 3, none⟩) := (hdeps 10 _ 76 (by kernel_rfl) rfl rfl).1
                clear hbase hdeps
                go_simp
                exact ⟨hI.keep _ _ (by decide) (by decide), rfl⟩
              · intro ρ W D us hI hcl hDi hdep hc hg hf hbase hdeps
                have r77 : ρ (.tmp 77) = .pointer (some ⟨g, N.length * 3 + 1, none⟩) := (hdeps 11 _ 77 (by kernel_rfl) rfl rfl).1
                clear hbase hdeps
                have kk := (World.cell?_of_block (a := ⟨g, N.length * 3 + 1, none⟩) (hI.heap hwg hne2)).trans kq
                go_simp
                exact ⟨hI.keep _ _ (by decide) (by decide), rfl⟩
              · intro ρ W D us hI hcl hDi hdep hc hg hf hbase hdeps
                have r8 := hbase 8 (by kernel_rfl)
                clear hbase hdeps
                go_simp
                exact ⟨hI.keep _ _ (by decide) (by decide), rfl⟩
              · intro ρ W D us hI hcl hDi hdep hc hg hf hbase hdeps
                have r79 : ρ (.tmp 79) = .int .i64 (q : Int) := (hdeps 13 _ 79 (by kernel_rfl) rfl rfl).1
                clear hbase hdeps
                go_simp
                exact hI.made (closed_no hcl hDi (o := _) rfl (by kernel_rfl))
              · intro ρ W D us hI hcl hDi hdep hc hg hf hbase hdeps
                have r78 : ρ (.tmp 78) = .slice An ks.length cn := (hdeps 12 _ 78 (by kernel_rfl) rfl rfl).1
                have r80 : ρ (.tmp 80) = us 14 := (hdeps 14 _ 80 (by kernel_rfl) rfl rfl).2
                clear hbase hdeps
                obtain ⟨b14, e14, h14⟩ := hI.v14 (hdep 14 (by decide +kernel)) hDi; exact upon1_push base (.tmp 78) (.tmp 80) 59 3 (.int .i64 0) 1 8 rfl Try.underlying59 Try.infoI rfl (by decide) (by decide) (.slice An ks.length cn) ks.length (natV ks) r78 (HOWF.out W (hI.pre hDi)) b14 1 [.int .i64 (q : Int)] (r80.trans e14) rfl h14 (one_int _) (by omega) (by have := (hI.pre hDi).size; omega) (fun v1 w1 ho hg hat => ⟨hI.pushed hDi ho hg hat, trivial⟩)
            · intro us W1 hW1 hus
              have hu0 : us 0 = .pointer (some ⟨gn, 0, none⟩) := hus 0 _ (by decide) rfl rfl
              have hu1 : us 1 = .pointer (some ⟨gn, 0, none⟩) := hus 1 _ (by decide) rfl rfl
              have hu2 : us 2 = .pointer (some ⟨gn, 0, none⟩) := hus 2 _ (by decide) rfl rfl
              have hu3 : us 3 = .slice (some ⟨g, 0, none⟩) M2.length cap := hus 3 _ (by decide) rfl rfl
              have hu4 : us 4 = .int .i64 (N.length : Int) := hus 4 _ (by decide) rfl rfl
              have hu5 : us 5 = .pointer (some ⟨gn, 0, none⟩) := hus 5 _ (by decide) rfl rfl
              have hu6 : us 6 = .pointer (some ⟨gn, 0, none⟩) := hus 6 _ (by decide) rfl rfl
              have hu7 : us 7 = .pointer (some ⟨gn, 0, none⟩) := hus 7 _ (by decide) rfl rfl
              have hu8 : us 8 = .slice (some ⟨g, 0, none⟩) M2.length cap := hus 8 _ (by decide) rfl rfl
              have hu9 : us 9 = .int .i64 (N.length : Int) := hus 9 _ (by decide) rfl rfl
              have hu10 : us 10 = .pointer (some ⟨g, N.length * 3, none⟩) := hus 10 _ (by decide) rfl rfl
              have hu11 : us 11 = .pointer (some ⟨g, N.length * 3 + 1, none⟩) := hus 11 _ (by decide) rfl rfl
              have hu12 : us 12 = .slice An ks.length cn := hus 12 _ (by decide) rfl rfl
              have hu13 : us 13 = .int .i64 (q : Int) := hus 13 _ (by decide) rfl rfl
              clear hus
              simp only [List.drop_succ_cons, List.drop_zero, List.take_succ_cons, List.take_zero, fill, Act.put, List.setIfInBounds_toArray, List.set_cons_succ, List.set_cons_zero, hu0, hu1, hu2, hu3, hu4, hu5, hu6, hu7, hu8, hu9, hu10, hu11, hu12, hu13]
              clear hu0 hu1 hu2 hu3 hu4 hu5 hu6 hu7 hu8 hu9 hu10 hu11 hu12 hu13
              obtain ⟨Wx, hBx, hg1, hat1, ho1⟩ := hW1.v15 rfl
              obtain ⟨A2, c2, e15⟩ := own_shape ho1
              rw [e15] at hat1 ho1
              rw [e15]
              have hxs := hBx.size
              have kq1 := (World.cell?_of_block (a := ⟨g, N.length * 3 + 1, none⟩) (hg1.block g (by omega) hne2)).trans ((World.cell?_of_block (a := ⟨g, N.length * 3 + 1, none⟩) (hBx.block g hwg)).trans kq)
              have kf1 := (World.frozen?_of_block (a := ⟨g, N.length * 3 + 1, none⟩) (hg1.block g (by omega) hne2)).trans ((World.frozen?_of_block (a := ⟨g, N.length * 3 + 1, none⟩) (hBx.block g hwg)).trans kqf0)
              have ho1 := Lib.hid ho1
              have hat1 := Lib.hid hat1
              have HN5W : NetB F2 base Wx gn M2 (.slice (some ⟨g, 0, none⟩) M2.length cap) cs2 av2 := HN5.out.keep (fun k hk => hBx.block k (HN5.out.lt k hk).2) hxs
              have HN5W := Lib.hid HN5W
              clear hW1
              generalize us 14 = u14 at *
              have hN6 := HN5W.out.arg (q := q) HG5'.out ho1.out (by rw [HAV.out]; exact hg1) (by rw [HAV.out]; exact hat1.out) (by simp only; omega)
              have hAn : ∀ k, (Value.slice An ks.length cn).ownBlock = some k → F2 k := fun k hk => HN5.out.fa _ _ k HG5'.out (by rw [HAV.out]; exact hk)
              have hF2 : ∀ k, F2 k → F k ∨ w.heap.size < k := fun k hk => by
                rcases HF5.out k hk with h | h
                · exact HF4.out k h
                · exact .inr (by omega)
              have hz5 := HB5.out.size
              have hF6 : ∀ k, (F2 k ∨ (Value.slice A2 (ks.length + 1) c2).ownBlock = some k) → F k ∨ w.heap.size < k := by
                rintro k (hk | hk)
                · exact hF2 k hk
                · rcases hat1.out with e | e
                  · rw [e] at hk; exact hF2 k (hAn k hk)
                  · rw [e] at hk; cases hk; exact .inr (by omega)
              have hK6 : ∀ k, k ≤ w.heap.size → ¬ F k → (W1.setCell ⟨g, N.length * 3 + 1, none⟩ (.slice A2 (ks.length + 1) c2)).heap[k]? = (w.alloc (.cells #[.int .i64 hd, .slice (some ⟨b, o, none⟩) ar.length c] 24)).heap[k]? := fun k hk hFk => by
                have hno : ∀ j, F2 j → k ≠ j := fun j hj e => by
                  subst e
                  rcases hF2 k hj with h | h
                  · exact hFk h
                  · omega
                rw [Below.heap_setCell _ _ _ _ (hno g HGF.out)]
                refine (hg1.block k (by omega) (fun e => hno k (hAn k e.symm) rfl)).trans ?_
                refine (hBx.block k (by omega)).trans ((HK5.out k (by omega) (fun h => ?_)).trans (HK4.out k hk hFk))
                rcases HF4.out k h with h | h
                · exact hFk h
                · omega
              have hB6 : Below base (w.alloc (.cells #[.int .i64 hd, .slice (some ⟨b, o, none⟩) ar.length c] 24)) (W1.setCell ⟨g, N.length * 3 + 1, none⟩ (.slice A2 (ks.length + 1) c2)) :=
                ((((HB4.out.trans HB5.out).trans (hBx.mono hbw)).grown hg1 (by omega) (fun k hk => (HN5.out.lt k (hAn k hk)).1)).setCell (p := ⟨g, N.length * 3 + 1, none⟩) (HN5.out.lt g HGF.out).1 _)
              have HF6 := Lib.hid hF6
              have HK6 := Lib.hid hK6
              have HB6 := Lib.hid hB6
              have HN6 := Lib.hid hN6
              have hFr6 : Fresh (addArg M2 N.length q) := HPUT.out.fresh.addArg (fun x hx => by
                rw [HG5'.out] at hx; cases hx
                exact HG0.out (by rintro rfl; simp at hdl2))
              have HFr6 := Lib.hid hFr6
              have hg6 : (addArg M2 N.length q)[N.length]? = some ⟨hd, ks ++ [q], -1⟩ := by rw [addArg_get, HG5'.out]; simp
              have HG6 := Lib.hid hg6
              have hs6 : (addArg M2 N.length q).length + T.sizeL (ar.drop (d + 1)) ≤ 1000000 := by
                have : (addArg M2 N.length q).length = M2.length := by simp [addArg]
                have := HSM.out; have := HS5.out; omega
              have HS6 := Lib.hid hs6
              have hks6 : (ks ++ [q]).length = d + 1 := by have := HKS.out; simp; omega
              have HKS6 := Lib.hid hks6
              clear hN6 hAn hF2 hF6 hK6 hB6 hFr6 hg6 hs6 hks6
              go_wp2
              go_roundg (gk - 1)
              case rel => exact ⟨d + 1, addArg M2 N.length q, _, _, _, _, ks ++ [q], by omega, by go_num, by omega, HN6.out, HF6.out, HK6.out, HB6.out, HFr6.out, HG6.out, HS6.out, HP5.out, HKS6.out⟩
              case measure => omega
          · have hdd : ar.drop d = [] := List.drop_eq_nil_of_le (by omega)
            have hpf : putP N (.mk hd ar) = (M, N.length) := by
              rw [HFIN.out, ← HP4.out, hdd]; simp [putL]
            have HPF := Lib.hid hpf
            clear hdd hpf hsl
            go_wp2
            go_ret
            show PutPost gn base F (putP N (.mk hd ar)) w _ _
            rw [HPF.out]
            refine ⟨_, _, _, F', rfl, HN4.out, fun k hk => ?_, fun k hk hFk => ?_, ?_⟩
            · rcases HF4.out k hk with h | h
              · exact .inl h
              · exact .inr (by omega)
            · exact (HK4.out k (by omega) hFk).trans (Below.heap_alloc _ _ _ hk)
            · exact ((Below.refl _ _).alloc hbs _).trans HB4.out
end Go.Proofs.Ytokhnlhffnidmaa
