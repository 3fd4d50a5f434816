/- The two laws answer true. -/
import Derived.Test.YtokhnlhffnidmaaAwk
namespace Go.Proofs.Ytokhnlhffnidmaa
open Go.RowKit Go.Shelf Elen

theorem goodL_mem {l : List T} (h : T.goodL l = true) : ∀ a, a ∈ l → T.good a = true := by
  induction l with
  | nil => intro a h; cases h
  | cons b l ih =>
    intro a ha
    simp only [T.goodL, Bool.and_eq_true] at h
    cases ha with
    | head => exact h.1
    | tail _ ha => exact ih h.2 a ha
/-- the two runs -/
theorem runs (la lb : List T) : ∃ q : Option (List Nd × Sub), (wrongs la lb = false → Run (fun _ => none) (la.zip lb) (q.map (·.2))) ∧
    (wrongs la lb = false → RRun (putZ [] (la.zip lb)).1 (fun _ => none) (fun _ _ => false) (putZ [] (la.zip lb)).2 q ∧ ∀ n' s', q = some (n', s') → Like (putZ [] (la.zip lb)).1 n' ∧ Net n' ∧ Rep n' s' ∧ Fine s') := by
  cases hw : wrongs la lb with
  | true => exact ⟨none, fun h => (by cases h), fun h => (by cases h)⟩
  | false =>
    have hg := (wrongs_not hw).2
    obtain ⟨q, h1, h2, h3⟩ := both (la.zip lb) (fun p hp => by
      have := List.of_mem_zip (show (p.1, p.2) ∈ la.zip lb from hp)
      exact ⟨goodL_mem hg _ (List.mem_append_left _ this.1), goodL_mem hg _ (List.mem_append_right _ this.2)⟩)
    exact ⟨q, fun _ => h2, fun _ => ⟨h1, h3⟩⟩
theorem allR_small (la lb : List T) (r : Option Sub) : ∀ p, p ∈ (allR la lb r).1 → p.2.size ≤ 1000000000 := by
  intro p hp
  unfold allR at hp
  split at hp
  · cases hp
  · have := answer_small r p hp; omega

set_option maxRecDepth 100000 in
set_option maxHeartbeats 1000000 in
theorem makes_calls (a b : T) (va vb : Value) (w : World) (ha : IsV w a va) (hb : IsV w b vb) :
    Calls Try.prog 3 #[va, vb] w fun e w' => e = .returned (.bool true) ∧ Below w.heap.size w w' := by
  obtain ⟨xa, ya, rfl, ha⟩ := ha
  obtain ⟨xb, yb, rfl, hb⟩ := hb
  obtain ⟨rfl, hia, hsa⟩ := ha.parts
  obtain ⟨A, ca, rfl, -, -⟩ := hsa.shapeT
  obtain ⟨rfl, hib, hsb⟩ := hb.parts
  obtain ⟨B, cb, rfl, -, -⟩ := hsb.shapeT
  have hb1 : Below w.heap.size w ((w.alloc (.cells #[.int .i64 a.head, .slice A a.args.length ca] 24)).alloc (.cells #[.int .i64 b.head, .slice B b.args.length cb] 24)) := allocs_below [.cells #[.int .i64 a.head, .slice A a.args.length ca] 24, .cells #[.int .i64 b.head, .slice B b.args.length cb] 24] _ (Nat.le_refl _)
  have g0 : ((w.alloc (.cells #[.int .i64 a.head, .slice A a.args.length ca] 24)).alloc (.cells #[.int .i64 b.head, .slice B b.args.length cb] 24)).heap[w.heap.size]? = some (.cells #[.int .i64 a.head, .slice A a.args.length ca] 24) := allocs_get [.cells #[.int .i64 a.head, .slice A a.args.length ca] 24, .cells #[.int .i64 b.head, .slice B b.args.length cb] 24] w 0 (by simp)
  have g1 : ((w.alloc (.cells #[.int .i64 a.head, .slice A a.args.length ca] 24)).alloc (.cells #[.int .i64 b.head, .slice B b.args.length cb] 24)).heap[w.heap.size + 1]? = some (.cells #[.int .i64 b.head, .slice B b.args.length cb] 24) := allocs_get [.cells #[.int .i64 a.head, .slice A a.args.length ca] 24, .cells #[.int .i64 b.head, .slice B b.args.length cb] 24] w 1 (by simp)
  have HA := Lib.hid ha
  have HB := Lib.hid hb
  have HB1 := Lib.hid hb1
  have HG0 := Lib.hid g0
  have HG1 := Lib.hid g1
  clear ha hb hsa hsb hb1 g0 g1
  go_enter Try.func3, Try.ntmps3
  go_upto_region 1 with fail
  have hb1 := HB1.out
  have g0 := HG0.out
  have g1 := HG1.out
  clear HB1 HG0 HG1
  generalize ((w.alloc (.cells #[.int .i64 a.head, .slice A a.args.length ca] 24)).alloc (.cells #[.int .i64 b.head, .slice B b.args.length cb] 24)) = W1 at *
  have k00 := cell_of_block g0 (j := 0) (v := .int .i64 a.head) rfl
  have k01 := cell_of_block g0 (j := 1) (v := .slice A a.args.length ca) rfl
  have k10 := cell_of_block g1 (j := 0) (v := .int .i64 b.head) rfl
  have k11 := cell_of_block g1 (j := 1) (v := .slice B b.args.length cb) rfl
  have hb2 : Below W1.heap.size W1 (W1.alloc (.cells #[.int .i64 a.head, .slice A a.args.length ca, .int .i64 b.head, .slice B b.args.length cb] 24)) := (Below.refl _ _).alloc (Nat.le_refl _) _
  have hrow : Row KT Any (W1.alloc (.cells #[.int .i64 a.head, .slice A a.args.length ca, .int .i64 b.head, .slice B b.args.length cb] 24)) [a, b] W1.heap.size 0 := row_two (HA.out.later hb1) (HB.out.later hb1) _
  have hfew := few_calls [a, b] _ _ hrow.sl2
  have HFEW := Lib.hid hfew
  have HB1 := Lib.hid hb1
  have HB2 := Lib.hid hb2
  clear hrow hfew hb1 hb2 g0 g1
  go_wp2_with fail
  refine HFEW.out.mono ?_
  rintro e w2 ⟨rfl, hb3⟩
  have hb2 := HB2.out
  have hz1 := HB1.out.size
  have hz2 := hb2.size
  have hW2 : Below W1.heap.size W1 w2 := hb2.trans (hb3.mono hz2)
  have HW2 := Lib.hid hW2
  have k00 := cell_kept hW2 k00
  have k01 := cell_kept hW2 k01
  have k10 := cell_kept hW2 k10
  have k11 := cell_kept hW2 k11
  have HA2 := Lib.hid (VF.of_ (HA.out.later (HB1.out.trans (hW2.mono hz1))))
  have HB2' := Lib.hid (VF.of_ (HB.out.later (HB1.out.trans (hW2.mono hz1))))
  clear hb2 hb3 hW2 HFEW
  cases hfw : decide (fewN [a, b] 0 ≤ 60) with
  | false =>
    go_wp2
    go_ret
    exact ⟨rfl, HB1.out.trans (HW2.out.mono hz1)⟩
  | true =>
    have hsz := fewN_size [a, b] 0 (by omega) (by simpa using hfw)
    simp only [T.sizeL] at hsz
    obtain ⟨q, hq1, hq2⟩ := runs [a] [b]
    have hu : ∀ W, Below w2.heap.size w2 W → Calls Try.prog 6 #[.agg #[.int .i64 a.head, .slice A a.args.length ca], .agg #[.int .i64 b.head, .slice B b.args.length cb]] W (AllPost (allR [a] [b] (q.map (·.2))) W) := fun W hW => umgu_calls a b _ _ W (HA2.out.later hW) (HB2'.out.later hW) (by omega) _ hq1
    have hr : ∀ W, Below w2.heap.size w2 W → Calls Try.prog 7 #[.agg #[.int .i64 a.head, .slice A a.args.length ca], .agg #[.int .i64 b.head, .slice B b.args.length cb]] W (AllPost (allR [a] [b] (q.map (·.2))) W) := fun W hW => rmgu_calls a b _ _ W (HA2.out.later hW) (HB2'.out.later hW) (by omega) q hq2
    have HU := Lib.hid hu
    have HR := Lib.hid hr
    have HSM := Lib.hid (allR_small [a] [b] (q.map (·.2)))
    generalize allR [a] [b] (q.map (·.2)) = res at *
    obtain ⟨rl, rb, rc⟩ := res
    clear hu hr hq1 hq2 hfw hsz
    go_wp2_with fail
    refine (HU.out w2 (Below.refl _ _)).mono ?_
    rintro e w3 ⟨v3, rfl, hs3, hb3⟩
    obtain ⟨A3, c3, rfl, -, -⟩ := hs3.shape
    have HS3 := Lib.hid hs3
    have HB3 := Lib.hid hb3
    have k00 := cell_kept hb3 k00
    have k01 := cell_kept hb3 k01
    have k10 := cell_kept hb3 k10
    have k11 := cell_kept hb3 k11
    clear hs3 hb3
    go_wp2_with fail
    refine (HR.out w3 HB3.out).mono ?_
    rintro e w4 ⟨v4, rfl, hs4, hb4⟩
    obtain ⟨A4, c4, rfl, -, -⟩ := hs4.shape
    have HS4 := Lib.hid hs4
    have HB4 := Lib.hid hb4
    clear hs4 hb4 k00 k01 k10 k11
    go_wp2_with fail
    refine (awake_calls w4).mono ?_
    rintro e w5 ⟨rfl, hb5⟩
    have HB5 := Lib.hid hb5
    have hsame := bsame_calls rl _ _ w5 (((HS3.out.later HB4.out).later hb5).mono fun _ _ => trivial) ((HS4.out.later hb5).mono fun _ _ => trivial) HSM.out
    have HSAME := Lib.hid hsame
    clear hb5 hsame
    go_wp2_with fail
    refine HSAME.out.mono ?_
    rintro e w6 ⟨rfl, hb6⟩
    have HB6 := Lib.hid hb6
    clear hb6
    go_wp2
    go_ret
    have z3 := HB3.out.size
    have z4 := HB4.out.size
    have z5 := HB5.out.size
    have zw := HW2.out.size
    exact ⟨rfl, HB1.out.trans ((HW2.out.trans ((HB3.out.trans ((HB4.out.trans ((HB5.out.trans (HB6.out.mono z5)).mono z4)).mono z3)).mono zw)).mono hz1)⟩

set_option maxRecDepth 100000 in
set_option maxHeartbeats 1000000 in
theorem rows_calls (la lb : List T) (va vb : Value) (w : World) (ha : IsL w la va) (hb : IsL w lb vb) :
    Calls Try.prog 4 #[va, vb] w fun e w' => e = .returned (.bool true) ∧ Below w.heap.size w w' := by
  obtain ⟨A, ca, rfl, ha1, ha2⟩ := ha.shapeT
  obtain ⟨B, cb, rfl, hb1, hb2⟩ := hb.shapeT
  have HA := Lib.hid ha
  have HB := Lib.hid hb
  clear ha hb
  go_enter Try.func4, Try.ntmps4
  go_wp2_with fail
  refine (few_calls la _ w HA.out).mono ?_
  rintro e w1 ⟨rfl, hb1⟩
  have HB1 := Lib.hid hb1
  clear hb1
  cases hfa : decide (fewN la 0 ≤ 60) with
  | false =>
    go_wp2
    go_ret
    exact ⟨rfl, HB1.out⟩
  | true =>
  have hsa := fewN_size la 0 (by omega) (by simpa using hfa)
  have HSA := Lib.hid hsa
  clear hsa hfa
  go_wp2_with fail
  refine (few_calls lb _ w1 (HB.out.later HB1.out)).mono ?_
  rintro e w2 ⟨rfl, hb2⟩
  have HB2 := Lib.hid (HB1.out.trans (hb2.mono HB1.out.size))
  clear hb2
  cases hfb : decide (fewN lb 0 ≤ 60) with
  | false =>
    go_wp2
    go_ret
    exact ⟨rfl, HB2.out⟩
  | true =>
  have hsb := fewN_size lb 0 (by omega) (by simpa using hfb)
  have HSB := Lib.hid hsb
  clear hsb hfb
  by_cases ga : 10 < la.length
  · have ga' : decide ((10 : Int) < (la.length : Int)) = true := decide_eq_true (by omega)
    go_wp2
    go_ret
    exact ⟨rfl, HB2.out⟩
  have ga' : decide ((10 : Int) < (la.length : Int)) = false := decide_eq_false (by omega)
  by_cases gb : 10 < lb.length
  · have gb' : decide ((10 : Int) < (lb.length : Int)) = true := decide_eq_true (by omega)
    go_wp2
    go_ret
    exact ⟨rfl, HB2.out⟩
  have gb' : decide ((10 : Int) < (lb.length : Int)) = false := decide_eq_false (by omega)
  obtain ⟨q, hq1, hq2⟩ := runs la lb
  have hz : la.length + 8 * (T.sizeL la + T.sizeL lb) ≤ 1000000 := by have := HSA.out; have := HSB.out; omega
  have hu : ∀ W, Below w.heap.size w W → Calls Try.prog 10 #[.slice A la.length ca, .slice B lb.length cb] W (AllPost (allR la lb (q.map (·.2))) W) := fun W hW => uall_calls Any la lb _ _ W (HA.out.later hW) (HB.out.later hW) hz _ hq1
  have hr : ∀ W, Below w.heap.size w W → Calls Try.prog 11 #[.slice A la.length ca, .slice B lb.length cb] W (AllPost (allR la lb (q.map (·.2))) W) := fun W hW => rall_calls Any la lb _ _ W (HA.out.later hW) (HB.out.later hW) hz q hq2
  have HU := Lib.hid hu
  have HR := Lib.hid hr
  have HSM := Lib.hid (allR_small la lb (q.map (·.2)))
  generalize allR la lb (q.map (·.2)) = res at *
  obtain ⟨rl, rb, rc⟩ := res
  clear hu hr hq1 hq2 ga gb hz
  go_wp2_with fail
  refine (HU.out w2 HB2.out).mono ?_
  rintro e w3 ⟨v3, rfl, hs3, hb3⟩
  obtain ⟨A3, c3, rfl, -, -⟩ := hs3.shape
  have HS3 := Lib.hid hs3
  have z2 := HB2.out.size
  have HB3 := Lib.hid (HB2.out.trans (hb3.mono z2))
  clear hs3 hb3
  go_wp2_with fail
  refine (HR.out w3 HB3.out).mono ?_
  rintro e w4 ⟨v4, rfl, hs4, hb4⟩
  obtain ⟨A4, c4, rfl, -, -⟩ := hs4.shape
  have HS4 := Lib.hid hs4
  have HB4 := Lib.hid hb4
  clear hs4 hb4
  go_wp2_with fail
  refine (awake_calls w4).mono ?_
  rintro e w5 ⟨rfl, hb5⟩
  have HB5 := Lib.hid hb5
  have hsame := bsame_calls rl _ _ w5 (((HS3.out.later HB4.out).later hb5).mono fun _ _ => trivial) ((HS4.out.later hb5).mono fun _ _ => trivial) HSM.out
  have HSAME := Lib.hid hsame
  clear hb5 hsame
  go_wp2_with fail
  refine HSAME.out.mono ?_
  rintro e w6 ⟨rfl, hb6⟩
  have HB6 := Lib.hid hb6
  clear hb6
  go_wp2
  go_ret
  have z3 := HB3.out.size
  have z4 := HB4.out.size
  have z5 := HB5.out.size
  exact ⟨rfl, HB3.out.trans ((HB4.out.trans ((HB5.out.trans (HB6.out.mono z5)).mono z4)).mono z3)⟩
end Go.Proofs.Ytokhnlhffnidmaa
