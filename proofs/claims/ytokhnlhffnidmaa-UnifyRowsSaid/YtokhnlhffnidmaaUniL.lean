/- Unify.All, unify.Mgu. -/
import Derived.Test.YtokhnlhffnidmaaUniK
import Derived.Test.YtokhnlhffnidmaaUniF
import Derived.Test.YtokhnlhffnidmaaItrC
namespace Go.Proofs.Ytokhnlhffnidmaa
open Go.RowKit Go.Shelf Elen

theorem Run.ended {U : List T} {n0 : Nat} {s s' : Sub} {l : List (T × T)} {r : Option Sub} (h : Run s l r) : r = some s' → RunI U n0 s l → Cl U s' ∧ Tot s' := by
  induction h with
  | nil => intro e hi; cases e; exact ⟨hi.cl, hi.tot⟩
  | same _ _ _ _ ih => intro e hi; exact ih e hi.tail
  | occurs => intro e; cases e
  | bind h1 h2 _ h4 h5 _ ih => intro e hi; exact ih e (hi.bind h1 h2 h4 h5)
  | clash => intro e; cases e
  | node h1 h2 _ _ _ ih => intro e hi; exact ih e (hi.node h1 h2)

def notOK (t : T) : Bool := decide (t.check ≠ 0)
def wrongs (la lb : List T) : Bool := decide (la.length ≠ lb.length) || la.any notOK || lb.any notOK
noncomputable def allR (la lb : List T) (r : Option Sub) : List (Nat × T) × Bool × Int := if wrongs la lb = true then ([], false, 1) else answer r
/-- what both All hand back -/
def AllPost (q : List (Nat × T) × Bool × Int) (w : World) (e : Ending) (w' : World) : Prop :=
  ∃ v, e = .returned (.tuple #[v, .bool q.2.1, .int .i64 q.2.2]) ∧ Sl KB (w.heap.size ≤ ·) w' q.1 v ∧ Below w.heap.size w w'
theorem notOK_good {t : T} (h : notOK t = false) : t.good = true ∧ t.size ≤ 400 := by
  unfold notOK T.check at h
  simp only [decide_eq_false_iff_not, ne_eq, Classical.not_not] at h
  split at h
  · omega
  · split at h
    · omega
    · split at h
      · exact ⟨by assumption, by omega⟩
      · omega
theorem goodL_of {l : List T} (h : ∀ t, t ∈ l → t.good = true) : T.goodL l = true := by
  induction l with
  | nil => rfl
  | cons a l ih => simp only [T.goodL, Bool.and_eq_true]; exact ⟨h a (.head _), ih fun t ht => h t (.tail _ ht)⟩
theorem wrongs_not {la lb : List T} (h : wrongs la lb = false) : la.length = lb.length ∧ T.goodL (la ++ lb) = true := by
  unfold wrongs at h
  simp only [Bool.or_eq_false_iff, decide_eq_false_iff_not, ne_eq, Classical.not_not, List.any_eq_false, Bool.not_eq_true] at h
  refine ⟨h.1.1, goodL_of fun t ht => ?_⟩
  rcases List.mem_append.1 ht with ht | ht
  · exact (notOK_good (h.1.2 t ht)).1
  · exact (notOK_good (h.2 t ht)).1

theorem wrong_calls (t : T) (x y : Value) (F : Nat → Prop) (w : World) (ht : IsF F w t x y) (hsz : t.size ≤ 1000000000) :
    Calls Try.prog 16 #[.agg #[x, y]] w fun e w' => e = .returned (.bool (notOK t)) ∧ Below w.heap.size w w' := by
  obtain ⟨rfl, hi, hs⟩ := ht.parts
  obtain ⟨A, c, rfl, -, -⟩ := hs.shapeT
  have hb : Below w.heap.size w (w.alloc (.cells #[.int .i64 t.head, .slice A t.args.length c] 24)) := (Below.refl _ _).alloc (Nat.le_refl _) _
  have hc := tcheck_calls t (.agg #[.int .i64 t.head, .slice A t.args.length c]) _ ⟨_, _, rfl, (ht.later hb).mono fun _ _ => trivial⟩ hsz
  have HC := Lib.hid hc
  have HB := Lib.hid hb
  clear hc hb ht hs hi
  go_enter Try.func16, Try.ntmps16
  go_wp2_with fail
  refine HC.out.mono ?_
  rintro e w2 ⟨rfl, hb2⟩
  have HB2 := Lib.hid hb2
  clear hb2
  go_wp2
  go_ret
  refine ⟨ret_bool ?_, HB.out.trans (HB2.out.mono (by simp))⟩
  unfold notOK
  by_cases h : t.check = 0 <;> simp [h]

theorem anyWrong_calls (l : List T) (v : Value) (F : Nat → Prop) (w : World) (hv : Sl KT F w l v) (hsz : T.sizeL l ≤ 1000000000) :
    Calls Try.prog 18 #[v, .func (.func 16) #[] #[]] w fun e w' => e = .returned (.bool (l.any notOK)) ∧ Below w.heap.size w w' := by
  have hcon := contains_calls 16 #[] (enters_of Try.func16 (by kernel_rfl) rfl) F l v notOK (fun _ W => Below w.heap.size w W) w hv (fun _ W h => .of_new h) (Below.refl _ _) (fun i hi x y W hW hx => by
    refine (wrong_calls l[i] x y F W hx (by have := T.size_mem (List.getElem_mem hi); omega)).mono ?_
    rintro e w' ⟨rfl, hb⟩
    exact ⟨rfl, hW.trans (hb.mono hW.size)⟩)
  refine hcon.mono ?_
  rintro e w' ⟨rfl, j, -, h⟩
  exact ⟨rfl, h⟩

set_option maxRecDepth 100000 in
set_option maxHeartbeats 1000000 in
theorem uall_calls (F : Nat → Prop) (la lb : List T) (va vb : Value) (w : World) (ha : Sl KT F w la va) (hb : Sl KT F w lb vb) (hz : la.length + 8 * (T.sizeL la + T.sizeL lb) ≤ 1000000) (r : Option Sub) (hr : wrongs la lb = false → Run (fun _ => none) (la.zip lb) r) :
    Calls Try.prog 10 #[va, vb] w (AllPost (allR la lb r) w) := by
  obtain ⟨A, ca, rfl, ha1, ha2⟩ := ha.shapeT
  obtain ⟨B, cb, rfl, hb1, hb2⟩ := hb.shapeT
  have hwa := anyWrong_calls la _ F w ha (by omega)
  have hwb : ∀ W : World, Below w.heap.size w W → Calls Try.prog 18 #[.slice B lb.length cb, .func (.func 16) #[] #[]] W fun e w' => e = .returned (.bool (lb.any notOK)) ∧ Below W.heap.size W w' := fun W hW => anyWrong_calls lb _ F W (hb.later hW) (by omega)
  have HWA := Lib.hid hwa
  have HWB := Lib.hid hwb
  have HR := Lib.hid hr
  have HA := Lib.hid ha
  have HB := Lib.hid hb
  clear hwa hwb hr ha hb
  go_enter Try.func10, Try.ntmps10
  by_cases hl : la.length = lb.length
  · have hwb' := HWB.out
    rw [← hl] at hwb'
    have HWB' := Lib.hid hwb'
    clear hwb' HWB
    rw [← hl]
    have HL := Lib.hid hl
    clear hl
    go_wp2_with fail
    refine HWA.out.mono ?_
    rintro e w1 ⟨rfl, hb1⟩
    have HB1 := Lib.hid hb1
    clear hb1
    cases hwa : la.any notOK with
    | true =>
      have HW1 := Lib.hid hwa
      clear hwa
      go_wp2_with fail
      go_ret3
      have : wrongs la lb = true := by unfold wrongs; rw [HW1.out]; simp
      unfold allR
      rw [if_pos this]
      exact ⟨_, rfl, Sl.nil _ _ _, HB1.out⟩
    | false =>
      have HW1 := Lib.hid hwa
      clear hwa
      go_wp2_with fail
      refine (HWB'.out w1 HB1.out).mono ?_
      rintro e w2 ⟨rfl, hb2⟩
      have HB2 := Lib.hid (HB1.out.trans (hb2.mono HB1.out.size))
      clear hb2
      cases hwb : lb.any notOK with
      | true =>
        have HW2 := Lib.hid hwb
        clear hwb
        go_wp2_with fail
        go_ret3
        have : wrongs la lb = true := by unfold wrongs; rw [HW2.out]; simp
        unfold allR
        rw [if_pos this]
        exact ⟨_, rfl, Sl.nil _ _ _, HB2.out⟩
      | false =>
        have hwr : wrongs la lb = false := by unfold wrongs; rw [HW1.out, hwb, HL.out]; simp
        have hrun := HR.out hwr
        have hgood := (wrongs_not hwr).2
        have hI := RunI.start HL.out hgood
        have hUz : la.length + 8 * (T.subsL (la ++ lb)).length ≤ 1000000 := by rw [T.subsL_length, T.sizeL_append]; exact hz
        have HWR := Lib.hid hwr
        have HRUN := Lib.hid hrun
        have HI := Lib.hid hI
        have HUZ := Lib.hid hUz
        clear hwb hwr hrun hgood hI hUz
        have hmm := @run_makeMap Try.prog
        go_upto_region 5 with fail
        have hbm : Below w2.heap.size w2 ((w2.alloc (.map #[] 0)).alloc (.cells #[.map (some w2.heap.size)] 46)) := allocs_below [.map #[] 0, .cells #[.map (some w2.heap.size)] 46] _ (Nat.le_refl _)
        have hzm : ((w2.alloc (.map #[] 0)).alloc (.cells #[.map (some w2.heap.size)] 46)).heap.size = w2.heap.size + 2 := by simp
        have hsp : ((w2.alloc (.map #[] 0)).alloc (.cells #[.map (some w2.heap.size)] 46)).cell? ⟨w2.heap.size + 1, 0, none⟩ = some (.map (some w2.heap.size)) := by
          have := cell_new (w2.alloc (.map #[] 0)) #[.map (some w2.heap.size)] 46 0 (v := .map (some w2.heap.size)) rfl
          rw [World.size_alloc] at this
          exact this
        have hmp : MapI ((w2.alloc (.map #[] 0)).alloc (.cells #[.map (some w2.heap.size)] 46)) w2.heap.size 256 (fun _ => none) := ((MapI.made w2).mono (by omega)).below ((Below.refl _ _).alloc (Nat.le_refl _) _)
        generalize ((w2.alloc (.map #[] 0)).alloc (.cells #[.map (some w2.heap.size)] 46)) = W3 at *
        have hb3 := HB2.out.trans (hbm.mono HB2.out.size)
        have hz2 := HB2.out.size
        have hS : Solv (fun k => F k ∧ k < w.heap.size) W3 (w2.heap.size + 1) w2.heap.size 256 (fun _ => none) (fun _ => none) := ⟨hsp, hmp, fun _ _ => rfl, fun k t e => (by cases e)⟩
        have hsol := usolve_calls (fun k => F k ∧ k < w.heap.size) (w2.heap.size + 1) w2.heap.size (fun _ => none) (fun _ => none) la lb _ _ r (T.subsL (la ++ lb)) W3 (fun k hk => by omega) (fun h => by omega) (by omega) hS HL.out (HA.out.bound.move fun b hb => hb3.block b hb.2) (HB.out.bound.move fun b hb => hb3.block b hb.2) HRUN.out HI.out HUZ.out
        have hlr := HL.out
        rw [← hlr] at hsol
        have HSOL := Lib.hid hsol
        have HB3 := Lib.hid hb3
        have HZM := Lib.hid hzm
        have HZ2 := Lib.hid hz2
        clear hbm hzm hsp hmp hb3 hS hsol hlr hz2
        go_wp2_with fail
        refine HSOL.out.mono ?_
        rintro e w4 ⟨rfl, hD, hsm⟩
        have hb4 : Below w.heap.size w w4 := HB3.out.trans (hsm.below (n := w.heap.size) (by have := HZM.out; have := HZ2.out; omega) (fun k hk => by have := HZ2.out; omega))
        have HB4 := Lib.hid hb4
        clear hsm hb4
        cases hr' : r with
        | none =>
          have HWR' := Lib.hid HWR.out
          clear hD
          simp only [Option.isSome_none]
          go_wp2_with fail
          go_ret3
          have hal : allR la lb none = ([], false, 0) := by
            unfold allR
            rw [HWR'.out]
            rfl
          rw [hr', hal]
          exact ⟨_, rfl, Sl.nil _ _ _, HB4.out⟩
        | some s' =>
          subst hr'
          obtain ⟨D', hS'⟩ := hD s' rfl
          obtain ⟨hcl, htot⟩ := Run.ended HRUN.out rfl HI.out
          have hend := end_calls (T.subsL (la ++ lb)) s' hcl (fun k => F k ∧ k < w.heap.size) _ _ _ D' w4 hS' (fun k hk => by have := HB4.out.size; omega) (fun v u _ => htot _)
          have HEND := Lib.hid hend
          clear hend hcl htot hS' hD
          simp only [Option.isSome_some]
          go_wp2_with fail
          refine HEND.out.mono ?_
          rintro e w5 ⟨vo, rfl, hsl, hb5⟩
          obtain ⟨Ao, co, rfl, -, -⟩ := hsl.shape
          have HSL := Lib.hid hsl
          have HB5 := Lib.hid hb5
          have HWR' := Lib.hid HWR.out
          clear hsl hb5
          have hal : allR la lb (some s') = ((ends s' (vars s') []).1, decide ((ends s' (vars s') []).2 = 0), (ends s' (vars s') []).2) := by
            unfold allR
            rw [HWR'.out]
            rfl
          generalize (ends s' (vars s') []).1 = el at *
          generalize (ends s' (vars s') []).2 = ec at *
          have HAL := Lib.hid hal
          clear hal
          go_wp2_with fail
          go_ret3
          rw [HAL.out]
          refine ⟨_, ?_, HSL.out.mono (fun b (hb : w4.heap.size ≤ b) => by have := HB4.out.size; show w.heap.size ≤ b; omega), HB4.out.trans (HB5.out.mono HB4.out.size)⟩
          by_cases he : ec = 0 <;> simp [he]
  · have hne : ((la.length : Int) != (lb.length : Int)) = true := by simp; omega
    have HL := Lib.hid hl
    clear hl
    go_wp2_with fail
    go_ret3
    have : wrongs la lb = true := by unfold wrongs; have := HL.out; simp [this]
    unfold allR
    rw [if_pos this]
    exact ⟨_, rfl, Sl.nil _ _ _, Below.refl _ _⟩
end Go.Proofs.Ytokhnlhffnidmaa
