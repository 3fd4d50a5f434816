/- Does a term have a variable, behind all that is bound? -/
import Derived.Test.YtokhnlhffnidmaaUniA
import Derived.Test.YtokhnlhffnidmaaCon
import Derived.Test.YtokhnlhffnidmaaStk
namespace Go.Proofs.Ytokhnlhffnidmaa
open Go.RowKit Go.Shelf Elen

/-- the blocks of one question: the variable's, the solver's, the table's, the function's own -/
structure LookC (F : Nat → Prop) (sp mb bv bs bk bl n0 : Nat) : Prop where
  f : ∀ k, F k → k < n0
  hsp : sp < n0
  hmb : mb < n0
  hbv : n0 ≤ bv
  hbs : n0 ≤ bs
  hbk : n0 ≤ bk
  hbl : n0 ≤ bl
  vk : bv ≠ bk
  sk : bs ≠ bk
  lk : bl ≠ bk

def lookV (bv bs bk bl : Nat) : Value := .func (.func 54) #[] #[.pointer (some ⟨bv, 0, none⟩), .pointer (some ⟨bs, 0, none⟩), .pointer (some ⟨bk, 0, none⟩), .pointer (some ⟨bl, 0, none⟩)]

structure LookI (F : Nat → Prop) (v : Int) (sp mb nn : Nat) (s : Sub) (D : Int → Option Value) (bv bs bk bl n0 : Nat) (r : Option Nat) (Dk : Int → Option Value) (W : World) : Prop where
  cv : W.cell? ⟨bv, 0, none⟩ = some (.int .i64 v)
  cs : W.cell? ⟨bs, 0, none⟩ = some (.pointer (some ⟨sp, 0, none⟩))
  cl : W.cell? ⟨bl, 0, none⟩ = some (lookV bv bs bk bl)
  ck : W.heap[bk]? = some (.cells #[.map r] 102 (0, 0))
  solv : Solv F W sp mb nn s D
  seen : ∀ k, r = some k → n0 ≤ k ∧ k ≠ bv ∧ k ≠ bs ∧ k ≠ bk ∧ k ≠ bl ∧ MapI W k 256 Dk
  keys : ∀ k x, Dk k = some x → 0 ≤ k ∧ k < 256 ∧ ∃ b, x = .bool b ∧ ∀ u u', s k = some u → Full s u u' → T.has v u' = b

def Rok (r r' : Option Nat) (W : World) : Prop := r' = r ∨ (r = none ∧ ∃ k, r' = some k ∧ W.heap.size ≤ k)
def LookPost (F : Nat → Prop) (v : Int) (sp mb nn : Nat) (s : Sub) (D : Int → Option Value) (bv bs bk bl n0 : Nat) (r : Option Nat) (W : World) (b : Bool) (e : Ending) (W' : World) : Prop :=
  e = .returned (.bool b) ∧ ∃ r' Dk', LookI F v sp mb nn s D bv bs bk bl n0 r' Dk' W' ∧ Rok r r' W ∧ SameOn (fun k => k ≠ bk ∧ r ≠ some k) W W'

section
variable {F : Nat → Prop} {v : Int} {sp mb nn : Nat} {s : Sub} {D Dk : Int → Option Value} {bv bs bk bl n0 : Nat} {r : Option Nat} {W W1 : World}
theorem LookI.same {S : Nat → Prop} (h : LookI F v sp mb nn s D bv bs bk bl n0 r Dk W) (k : SameOn S W W1) (hF : ∀ k, F k → S k) (h1 : S sp) (h2 : S mb) (h3 : S bv) (h4 : S bs) (h5 : S bk) (h6 : S bl) (h7 : ∀ k, r = some k → S k) : LookI F v sp mb nn s D bv bs bk bl n0 r Dk W1 where
  cv := k.cell h3 h.cv
  cs := k.cell h4 h.cs
  cl := k.cell h6 h.cl
  ck := (k.block _ (Array.getElem?_eq_some_iff.1 h.ck).1 h5).trans h.ck
  solv := h.solv.same k hF h1 h2
  seen j e := by
    obtain ⟨a1, a2, a3, a4, a5, a6⟩ := h.seen j e
    exact ⟨a1, a2, a3, a4, a5, a6.later (k.block j a6.lt (h7 j e))⟩
  keys := h.keys
theorem LookI.later (h : LookI F v sp mb nn s D bv bs bk bl n0 r Dk W) (k : Below W.heap.size W W1) : LookI F v sp mb nn s D bv bs bk bl n0 r Dk W1 :=
  h.same (S := fun _ => True) (.of_new k) (fun _ _ => trivial) trivial trivial trivial trivial trivial trivial (fun _ _ => trivial)
theorem Rok.trans {r r1 r2 : Option Nat} {W W1 : World} (h : Rok r r1 W) (k : Rok r1 r2 W1) (hz : W.heap.size ≤ W1.heap.size) : Rok r r2 W := by
  rcases h with rfl | ⟨rfl, j, rfl, hj⟩
  · rcases k with rfl | ⟨rfl, i, rfl, hi⟩
    · exact .inl rfl
    · exact .inr ⟨rfl, i, rfl, by omega⟩
  · rcases k with rfl | ⟨e, _⟩
    · exact .inr ⟨rfl, j, rfl, hj⟩
    · cases e
theorem Rok.weak {r r1 : Option Nat} {W W1 : World} (h : Rok r r1 W1) (hz : W.heap.size ≤ W1.heap.size) : Rok r r1 W := by
  rcases h with h | ⟨h, j, e, hj⟩
  · exact .inl h
  · exact .inr ⟨h, j, e, by omega⟩
theorem Rok.ne {r r1 : Option Nat} {W : World} (h : Rok r r1 W) {k : Nat} (hk : k < W.heap.size) (hr : r ≠ some k) : r1 ≠ some k := by
  rcases h with rfl | ⟨_, j, rfl, hj⟩
  · exact hr
  · intro e; cases e; omega
theorem look_trans {r r1 : Option Nat} {W W1 W2 : World} {bk : Nat} (h : SameOn (fun k => k ≠ bk ∧ r ≠ some k) W W1) (hr : Rok r r1 W) (k : SameOn (fun k => k ≠ bk ∧ r1 ≠ some k) W1 W2) : SameOn (fun k => k ≠ bk ∧ r ≠ some k) W W2 :=
  ⟨k.os.trans h.os, k.tape.trans h.tape, k.output.trans h.output, Nat.le_trans h.size k.size, fun i hi hS => (k.block i (Nat.lt_of_lt_of_le hi h.size) ⟨hS.1, hr.ne hi hS.2⟩).trans (h.block i hi hS)⟩
end

set_option maxRecDepth 100000 in
set_option maxHeartbeats 1000000 in
theorem of_calls (F : Nat → Prop) (v : Int) (sp mb nn : Nat) (s : Sub) (D : Int → Option Value) (bv bs bk bl n0 : Nat) (hC : LookC F sp mb bv bs bk bl n0) (r : Option Nat) (Dk : Int → Option Value) (W : World) (hI : LookI F v sp mb nn s D bv bs bk bl n0 r Dk W) (hz0 : n0 ≤ W.heap.size) (n : Int) (hn0 : 0 ≤ n) (hn1 : n < 256) (u u' : T)
    (hs : s n = some u) (hfu : Full s u u') (kt : Nat) (lt : Array Value) (hkt : ∀ args w, (callFunc kt args).run Try.prog w = .ok (.enter kt args) w)
    (htell : ∀ r1 Dk1 W1, LookI F v sp mb nn s D bv bs bk bl n0 r1 Dk1 W1 → Rok r r1 W → SameOn (fun k => k ≠ bk ∧ r ≠ some k) W W1 → Calls Try.prog kt lt W1 (LookPost F v sp mb nn s D bv bs bk bl n0 r1 W1 (T.has v u'))) :
    Calls Try.prog 55 #[.pointer (some ⟨bk, 0, none⟩), .int .i64 n, .func (.func kt) #[] lt] W (LookPost F v sp mb nn s D bv bs bk bl n0 r W (T.has v u')) := by
  have qn : ∀ (w : World) (r : Option Nat), (binOp .eql 100 (.map r) (.map none)).run Try.prog w = .ok (.bool r.isNone) w := fun w r => run_eql_map_nil w _ _ _ r Try.underlying100
  have hki : I64 n := by unfold I64; omega
  have hk0 := cell_of_block hI.ck (j := 0) (v := .map r) rfl
  have hkf := frozen_of_block hI.ck 0
  have HI := Lib.hid hI
  have HT := Lib.hid htell
  have HS := Lib.hid hs
  have HF := Lib.hid hfu
  have HKI := Lib.hid hki
  have HCK := Lib.hid hI.ck
  clear hI htell hs hfu hki
  go_enter Try.func55, Try.ntmps55
  go_upto_if 14 with fail
  go_cut [] (fun wc => ∃ mk Dk', LookI F v sp mb nn s D bv bs bk bl n0 (some mk) Dk' wc ∧ Rok r (some mk) W ∧ SameOn (fun k => k ≠ bk ∧ r ≠ some k) W wc)
  case first =>
    cases r with
    | none =>
      have hmm := @run_makeMap Try.prog
      have hlt := (Array.getElem?_eq_some_iff.1 HCK.out).1
      go_wp2_with fail
      go_meet
      have hs0 : SameOn (fun k => k ≠ bk) W ((W.setCell ⟨bk, 0, none⟩ (.map (some W.heap.size))).alloc (.map #[] 0)) := (SameOn.set _ ⟨bk, 0, none⟩ _ (fun h => h rfl)).trans (SameOn.of_new ((Below.refl _ _).alloc (Nat.le_refl _) _))
      have hze : (W.setCell ⟨bk, 0, none⟩ (.map (some W.heap.size))).heap.size = W.heap.size := by simp [World.setCell]
      have h1 : ((W.setCell ⟨bk, 0, none⟩ (.map (some W.heap.size))).alloc (.map #[] 0)).heap[bk]? = some (.cells #[.map (some W.heap.size)] 102 (0, 0)) := (Below.heap_alloc _ _ _ (by rw [hze]; exact hlt)).trans (heap_setCell_at HCK.out 0 _)
      refine ⟨W.heap.size, fun _ => none, ⟨hs0.cell hC.vk HI.out.cv, hs0.cell hC.sk HI.out.cs, hs0.cell hC.lk HI.out.cl, h1, HI.out.solv.same hs0 (fun k hk => ?_) ?_ ?_, fun k e => ?_, fun k x e => by cases e⟩, .inr ⟨rfl, _, rfl, Nat.le_refl _⟩, hs0.mono fun k h => h.1⟩
      · have := hC.f k hk; have := hC.hbk; omega
      · have := hC.hsp; have := hC.hbk; omega
      · have := hC.hmb; have := hC.hbk; omega
      · cases e
        have b1 := World.block_lt_of_cell? W _ HI.out.cv
        have b2 := World.block_lt_of_cell? W _ HI.out.cs
        have b3 := World.block_lt_of_cell? W _ HI.out.cl
        simp only at b1 b2 b3
        refine ⟨hz0, by omega, by omega, by omega, by omega, ?_⟩
        have := (MapI.made (W.setCell ⟨bk, 0, none⟩ (.map (some W.heap.size)))).mono (n' := 256) (by omega)
        rw [hze] at this
        exact this
    | some mk =>
      go_wp2_with fail
      go_meet
      exact ⟨mk, Dk, HI.out, .inl rfl, SameOn.refl _ _⟩
  case rest =>
    obtain ⟨mk, Dk', hI1, hR1, hS1⟩ := hcut
    obtain ⟨m1, m2, m3, m4, m5, hmap⟩ := hI1.seen mk rfl
    have hk1 := cell_of_block hI1.ck (j := 0) (v := .map (some mk)) rfl
    have hlook := hmap.look Try.underlying100 (Try.zeroValue4 _) HKI.out true
    have HI1 := Lib.hid hI1
    have HR1 := Lib.hid hR1
    have HS1 := Lib.hid hS1
    clear hk0 hkf hI1 hR1 hS1 hmap
    cases hd : Dk' n with
    | some x =>
      obtain ⟨-, -, b, rfl, hb⟩ := HI1.out.keys n x hd
      have HB := Lib.hid (hb u u' HS.out HF.out)
      rw [hd] at hlook
      clear hb hd
      go_wp2
      go_ret
      exact ⟨ret_bool HB.out.symm, mk, Dk', HI1.out, HR1.out, HS1.out⟩
    | none =>
      rw [hd] at hlook
      have HD := Lib.hid hd
      clear hd
      go_wp2_with fail
      refine (HT.out _ _ _ HI1.out HR1.out HS1.out).mono ?_
      rintro e W2 ⟨rfl, r2, Dk2, hI2, hR2, hS2⟩
      obtain rfl : r2 = some mk := by
        rcases hR2 with h | ⟨h, _⟩
        · exact h
        · cases h
      obtain ⟨-, -, -, -, -, hmap2⟩ := hI2.seen mk rfl
      have hk2 := cell_of_block hI2.ck (j := 0) (v := .map (some mk)) rfl
      have HI2 := Lib.hid hI2
      have HS2 := Lib.hid hS2
      have HM2 := Lib.hid hmap2
      clear hI2 hS2 hR2 hmap2 hk1 hlook
      go_wp2_with (at_mapUpdate; refine wp_put rfl (.tmp 35) (.tmp 36) (.tmp 37) 100 4 rfl Try.underlying100 mk 256 Dk2 rfl n rfl HKI.out (.bool (T.has v u')) rfl HM2.out (by simp only [maxLen]; omega) ?_; intro w3 hm3 hg3; have HM3 := Lib.hid hm3; have HG3 := Lib.hid hg3; clear hm3 hg3)
      go_ret
      have hs3 : SameOn (fun k => k ≠ mk) W2 w3 := .of_grown HG3.out (fun k e h => by cases e; exact h rfl)
      have hkeys : ∀ k x, (if k = n then some (Value.bool (T.has v u')) else Dk2 k) = some x → 0 ≤ k ∧ k < 256 ∧ ∃ b, x = .bool b ∧ ∀ t t', s k = some t → Full s t t' → T.has v t' = b := fun k x e => by
        by_cases c : k = n
        · subst c
          rw [if_pos rfl] at e
          cases e
          exact ⟨hn0, hn1, _, rfl, fun t t' h1 h2 => by rw [HS.out] at h1; cases h1; rw [h2.det HF.out]⟩
        · rw [if_neg c] at e
          exact HI2.out.keys k x e
      refine ⟨rfl, some mk, fun j => if j = n then some (.bool (T.has v u')) else Dk2 j, ⟨hs3.cell (Ne.symm m2) HI2.out.cv, hs3.cell (Ne.symm m3) HI2.out.cs, hs3.cell (Ne.symm m5) HI2.out.cl, (hs3.block bk (Array.getElem?_eq_some_iff.1 HI2.out.ck).1 (Ne.symm m4)).trans HI2.out.ck, HI2.out.solv.same hs3 (fun k hk => ?_) ?_ ?_, fun k e => ?_, hkeys⟩, HR1.out, ?_⟩
      · have := hC.f k hk; omega
      · have := hC.hsp; omega
      · have := hC.hmb; omega
      · cases e; exact ⟨m1, m2, m3, m4, m5, HM3.out.cap (fun k x e => ⟨(hkeys k x e).1, (hkeys k x e).2.1⟩)⟩
      · exact look_trans HS1.out HR1.out (HS2.out.trans (hs3.mono fun k hk e => hk.2 (by rw [e])))
end Go.Proofs.Ytokhnlhffnidmaa
