/- the program's Check of a term. -/
import Derived.Test.YtokhnlhffnidmaaItrB
import Derived.Test.YtokhnlhffnidmaaMixS
import Derived.IntWalk
namespace Go.Proofs.Ytokhnlhffnidmaa
open Go.RowKit Go.Shelf Elen
attribute [local go_sem] Oper.semAt_some

theorem parts_calls (t : T) (x y : Value) (w : World) (ht : IsF Any w t x y) :
    Calls Try.prog 27 #[.agg #[x, y]] w fun e w1 => e = .returned (.func (.func 44) #[] #[.pointer (some ⟨w.heap.size, 0, none⟩)]) ∧ w1 = w.alloc (.cells #[x, y] 24) := by
  obtain ⟨rfl, hi, hs⟩ := ht.parts
  obtain ⟨A, c, rfl, -, -⟩ := hs.shapeT
  clear hs ht hi
  go_enter Try.func27, Try.ntmps27
  go_wp2
  go_ret
  exact ⟨rfl, rfl⟩

/-- what holds between two rounds of the loop over a term's parts -/
structure CheckI (n : Nat) (w5 : World) (pre : List (T × Nat)) (V : Nat → Prop) (A : World) : Prop where
  same : SameOn (fun k => k < w5.heap.size ∧ k ≠ n + 1 ∧ k ≠ n + 2 ∧ k ≠ n + 3) w5 A
  vs : ∀ k, V k ↔ k = n + 1 ∨ k = n + 2 ∨ k = n + 3
  h1 : A.heap[n + 1]? = some (.cells #[.int .i64 (pre.length : Int)] 3)
  h2 : A.heap[n + 2]? = some (.cells #[.int .i64 (mx pre : Int)] 3)
  h3 : A.heap[n + 3]? = some (.cells #[.bool (bad pre)] 4)
theorem CheckI.move {n : Nat} {w5 : World} {pre : List (T × Nat)} {V : Nat → Prop} {A B : World} (h : CheckI n w5 pre V A) (hk : SameOn (fun k => V k ∨ (k < w5.heap.size ∧ k ≠ n + 1 ∧ k ≠ n + 2 ∧ k ≠ n + 3)) A B) : CheckI n w5 pre V B where
  same := h.same.trans (hk.mono fun _ h => .inr h)
  vs := h.vs
  h1 := (hk.block _ (Array.getElem?_eq_some_iff.1 h.h1).1 (.inl ((h.vs _).2 (by omega)))).trans h.h1
  h2 := (hk.block _ (Array.getElem?_eq_some_iff.1 h.h2).1 (.inl ((h.vs _).2 (by omega)))).trans h.h2
  h3 := (hk.block _ (Array.getElem?_eq_some_iff.1 h.h3).1 (.inl ((h.vs _).2 (by omega)))).trans h.h3

theorem check_step {n l : Nat} {w5 A A3 B : World} {pre : List (T × Nat)} {x : T × Nat} {V : Nat → Prop} (h : CheckI n w5 pre V A) (hl : w5.heap.size ≤ l) (hz : n + 3 < w5.heap.size) (h3 : SameOn (fun k => k ≠ l) A A3) (hB : SameOn (fun k => k ≠ n + 1 ∧ k ≠ n + 2 ∧ k ≠ n + 3) A3 B)
    (h1 : B.heap[n + 1]? = some (.cells #[.int .i64 ((pre.length : Int) + 1)] 3)) (h2 : B.heap[n + 2]? = some (.cells #[.int .i64 (if mx pre < x.2 then (x.2 : Int) else (mx pre : Int))] 3)) (h3' : B.heap[n + 3]? = some (.cells #[.bool (bad pre || badHere x.1)] 4)) :
    ∃ V', CheckI n w5 (pre ++ [x]) V' B ∧ SameOn (fun k => ¬ V k ∧ k < A.heap.size) A3 B ∧ (∀ k, V' k → V k ∨ A.heap.size ≤ k) ∧ ∀ k, V' k → k < B.heap.size := by
  have hs := h.same.size
  have hs3 := h3.size
  have hsB := hB.size
  refine ⟨V, ⟨h.same.trans ((h3.mono fun k hk => by omega).trans (hB.mono fun k hk => hk.2)), h.vs, ?_, ?_, ?_⟩, hB.mono fun k hk => ?_, fun k hk => .inl hk, fun k hk => ?_⟩
  · rw [h1, List.length_append]; rfl
  · rw [h2, mx_snoc]
    by_cases c : mx pre < x.2
    · rw [if_pos c, Nat.max_eq_right (by omega)]
    · rw [if_neg c, Nat.max_eq_left (by omega)]
  · rw [h3', bad_snoc]
  · exact ⟨fun e => hk.1 ((h.vs k).2 (by omega)), fun e => hk.1 ((h.vs k).2 (by omega)), fun e => hk.1 ((h.vs k).2 (by omega))⟩
  · have := (h.vs k).1 hk; omega

set_option maxRecDepth 100000 in
set_option maxHeartbeats 1000000 in
theorem tcheck_calls (t : T) (v : Value) (w : World) (hv : IsV w t v) (hsz : t.size ≤ 1000000000) :
    Calls Try.prog 17 #[v] w fun e w' => e = .returned (.int .i64 t.check) ∧ Below w.heap.size w w' := by
  have HV := Lib.hid hv
  have HS := Lib.hid hsz
  obtain ⟨x, y, rfl, ht⟩ := hv
  obtain ⟨rfl, hi, hs⟩ := ht.parts
  obtain ⟨A, c, rfl, -, -⟩ := hs.shapeT
  clear hsz hs
  have HT := Lib.hid ht
  clear ht
  refine calls_marks Try.func17 rfl ?_
  simp only [Try.ntmps17, List.size_toArray, List.length_cons, List.length_nil, Nat.reduceAdd, Nat.reduceSub, Array.replicate_succ, Array.replicate_zero, List.push_toArray, List.append_toArray, List.nil_append, List.cons_append]
  go_wp2_with fail
  obtain ⟨n, hn⟩ : ∃ n, w.heap.size = n := ⟨_, rfl⟩
  rw [hn]
  have hb4 : Below w.heap.size w ((((w.alloc (.cells #[.int .i64 t.head, .slice A t.args.length c] 24)).alloc (.cells #[.int .i64 0] 3)).alloc (.cells #[.int .i64 0] 3)).alloc (.cells #[.bool false] 4)) :=
    ((((Below.refl _ _).alloc (Nat.le_refl _) _).alloc (by simp) _).alloc (by simp; omega) _).alloc (by simp; omega) _
  have hz4 : ((((w.alloc (.cells #[.int .i64 t.head, .slice A t.args.length c] 24)).alloc (.cells #[.int .i64 0] 3)).alloc (.cells #[.int .i64 0] 3)).alloc (.cells #[.bool false] 4)).heap.size = n + 4 := by simp [hn]
  have h41 : ((((w.alloc (.cells #[.int .i64 t.head, .slice A t.args.length c] 24)).alloc (.cells #[.int .i64 0] 3)).alloc (.cells #[.int .i64 0] 3)).alloc (.cells #[.bool false] 4)).heap[n + 1]? = some (.cells #[.int .i64 0] 3) := by
    have e := World.alloc_heap_new (w.alloc (.cells #[.int .i64 t.head, .slice A t.args.length c] 24)) (.cells #[.int .i64 0] 3)
    rw [World.size_alloc, hn] at e
    rw [Below.heap_alloc _ _ _ (by simp [hn]), Below.heap_alloc _ _ _ (by simp [hn])]; exact e
  have h42 : ((((w.alloc (.cells #[.int .i64 t.head, .slice A t.args.length c] 24)).alloc (.cells #[.int .i64 0] 3)).alloc (.cells #[.int .i64 0] 3)).alloc (.cells #[.bool false] 4)).heap[n + 2]? = some (.cells #[.int .i64 0] 3) := by
    have e := World.alloc_heap_new ((w.alloc (.cells #[.int .i64 t.head, .slice A t.args.length c] 24)).alloc (.cells #[.int .i64 0] 3)) (.cells #[.int .i64 0] 3)
    rw [World.size_alloc, World.size_alloc, hn] at e
    rw [Below.heap_alloc _ _ _ (by simp [hn])]; exact e
  have h43 : ((((w.alloc (.cells #[.int .i64 t.head, .slice A t.args.length c] 24)).alloc (.cells #[.int .i64 0] 3)).alloc (.cells #[.int .i64 0] 3)).alloc (.cells #[.bool false] 4)).heap[n + 3]? = some (.cells #[.bool false] 4) := by
    have e := World.alloc_heap_new (((w.alloc (.cells #[.int .i64 t.head, .slice A t.args.length c] 24)).alloc (.cells #[.int .i64 0] 3)).alloc (.cells #[.int .i64 0] 3)) (.cells #[.bool false] 4)
    rw [World.size_alloc, World.size_alloc, World.size_alloc, hn] at e
    exact e
  generalize ((((w.alloc (.cells #[.int .i64 t.head, .slice A t.args.length c] 24)).alloc (.cells #[.int .i64 0] 3)).alloc (.cells #[.int .i64 0] 3)).alloc (.cells #[.bool false] 4)) = w4 at *
  refine (parts_calls t _ _ _ (HT.out.later hb4)).mono ?_
  rintro e w5 ⟨rfl, h5⟩
  rw [hz4]
  have hb5 : Below w4.heap.size w4 w5 := by rw [h5]; exact (Below.refl _ _).alloc (Nat.le_refl _) _
  have hz5 : w5.heap.size = n + 5 := by rw [h5]; simp [hz4]
  have h50 : w5.cell? ⟨n + 4, 0, none⟩ = some (.int .i64 t.head) := by rw [h5, ← hz4]; exact cell_new _ _ _ _ rfl
  have h51 : w5.cell? ⟨n + 4, 1, none⟩ = some (.slice A t.args.length c) := by rw [h5, ← hz4]; exact cell_new _ _ _ _ rfl
  have h52 := (hb5.block (n + 1) (by omega)).trans h41
  have h53 := (hb5.block (n + 2) (by omega)).trans h42
  have h54 := (hb5.block (n + 3) (by omega)).trans h43
  have HT5 := Lib.hid (IsF.later (below_then hb4 (by omega) hb5) (IsF.mono (F' := fun k => k < w.heap.size) (fun _ h => h.2) HT.out.bound))
  have HB5 := Lib.hid (below_then hb4 (by omega) hb5)
  have HN := Lib.hid hn
  have HZ5 := Lib.hid hz5
  have H50 := Lib.hid h50
  have H51 := Lib.hid h51
  have H52 := Lib.hid h52
  have H53 := Lib.hid h53
  have H54 := Lib.hid h54
  clear h5 hb5 hz4 h41 h42 h43 hb4 hn hz5 h50 h51 h52 h53 h54
  go_upto_block 0 with fail
  refine wp_block ?_
  have hz5 := HZ5.out
  have hn := HN.out
  refine wp_rangeAll (gf := 44) (lb := #[.pointer (some ⟨n + 4, 0, none⟩)]) (enc := encP fun k => k < w.heap.size) (Fr := fun k => k < w.heap.size ∨ k = n + 4) (F := fun k => k < w5.heap.size ∧ k ≠ n + 1 ∧ k ≠ n + 2 ∧ k ≠ n + 3) (xs := t.parts) rfl
    (enters_of Try.func44 (by kernel_rfl) rfl) (parts1_seq (fun k => k < w.heap.size) _ (fun _ h => .inl h) t _ _ (n + 4) w5 HT5.out H50.out H51.out (.inr rfl) HS.out) (fun x W args h => by obtain ⟨_, _, rfl, _⟩ := h; rfl)
    (fun k hk => by omega) (fun k hk => hk.1) (CheckI n w5) (fun pre V A B h hk => h.move hk) (fun k => k = n + 1 ∨ k = n + 2 ∨ k = n + 3) ⟨SameOn.refl _ _, fun k => Iff.rfl, H52.out, H53.out, H54.out⟩ (fun k hk h => by omega) (fun k h => by omega) ?hround ?hdone
  case hdone =>
    intro D B V hD hI hVD hdef
    dsimp only
    have HI := Lib.hid hI
    have HDEF := Lib.hid hdef
    have HD := Lib.hid hD
    have hc1 := cell_of_block hI.h1 (j := 0) (v := .int .i64 (t.parts.length : Int)) rfl
    have hc2 := cell_of_block hI.h2 (j := 0) (v := .int .i64 (mx t.parts : Int)) rfl
    have hc3 := cell_of_block hI.h3 (j := 0) (v := .bool (bad t.parts)) rfl
    clear hI hdef hD hz5 hn
    have HCK := Lib.hid (T.parts_check t)
    have hpl : t.parts.length ≤ 1000000000 := by have := HS.out; have e := T.pts_length 1 t; unfold T.parts; omega
    by_cases g1 : 400 < t.parts.length
    · go_wp2
      refine leaves_marked HDEF.out (fun W _ => results_tmp rfl _ _ _) (fun B' hg => ⟨?_, ?_⟩)
      · rw [HCK.out]
        rw [if_pos g1]; rfl
      · exact HB5.out.trans ((HI.out.same.below (n := w.heap.size) (by have := HZ5.out; have := HN.out; omega) (fun k hk => by have := HZ5.out; have := HN.out; omega)).trans (SameOn.below (S := fun k => k < w.heap.size) (.of_grown hg (fun k e h => by cases e; have := HD.out; have := HZ5.out; have := HN.out; omega)) (by have := HI.out.same.size; have := HZ5.out; have := HN.out; omega) (fun _ h => h)))
    · by_cases g2 : 40 < mx t.parts
      · go_wp2
        refine leaves_marked HDEF.out (fun W _ => results_tmp rfl _ _ _) (fun B' hg => ⟨?_, ?_⟩)
        · rw [HCK.out]
          rw [if_neg g1, if_pos g2]; rfl
        · exact HB5.out.trans ((HI.out.same.below (n := w.heap.size) (by have := HZ5.out; have := HN.out; omega) (fun k hk => by have := HZ5.out; have := HN.out; omega)).trans (SameOn.below (S := fun k => k < w.heap.size) (.of_grown hg (fun k e h => by cases e; have := HD.out; have := HZ5.out; have := HN.out; omega)) (by have := HI.out.same.size; have := HZ5.out; have := HN.out; omega) (fun _ h => h)))
      · rcases g3 : bad t.parts with _ | _
        · rw [g3] at hc3
          have HG3 := Lib.hid g3
          clear g3
          go_wp2
          refine leaves_marked HDEF.out (fun W _ => results_tmp rfl _ _ _) (fun B' hg => ⟨?_, ?_⟩)
          · rw [HCK.out]
            rw [if_neg g1, if_neg g2, HG3.out]; rfl
          · exact HB5.out.trans ((HI.out.same.below (n := w.heap.size) (by have := HZ5.out; have := HN.out; omega) (fun k hk => by have := HZ5.out; have := HN.out; omega)).trans (SameOn.below (S := fun k => k < w.heap.size) (.of_grown hg (fun k e h => by cases e; have := HD.out; have := HZ5.out; have := HN.out; omega)) (by have := HI.out.same.size; have := HZ5.out; have := HN.out; omega) (fun _ h => h)))
        · rw [g3] at hc3
          have HG3 := Lib.hid g3
          clear g3
          go_wp2
          refine leaves_marked HDEF.out (fun W _ => results_tmp rfl _ _ _) (fun B' hg => ⟨?_, ?_⟩)
          · rw [HCK.out]
            rw [if_neg g1, if_neg g2, HG3.out]; rfl
          · exact HB5.out.trans ((HI.out.same.below (n := w.heap.size) (by have := HZ5.out; have := HN.out; omega) (fun k hk => by have := HZ5.out; have := HN.out; omega)).trans (SameOn.below (S := fun k => k < w.heap.size) (.of_grown hg (fun k e h => by cases e; have := HD.out; have := HZ5.out; have := HN.out; omega)) (by have := HI.out.same.size; have := HZ5.out; have := HN.out; omega) (fun _ h => h)))
  case hround =>
    intro l pre x args A V hl hlA hBA hI hFV hVl hVA henc hpre
    obtain ⟨x2, y2, rfl, hx2⟩ := henc
    obtain ⟨t2, d2⟩ := x
    obtain ⟨rfl, hi2, hs2⟩ := hx2.parts
    obtain ⟨A2, c2, rfl, -, -⟩ := hs2.shapeT
    have HI := Lib.hid hI
    have HPRE := Lib.hid hpre
    have HVA := Lib.hid hVA
    clear hI hpre hs2 hx2 hVA hFV
    refine wpIn_seq (region_in (then_out' then_out) rfl ?_)
    simp only [List.zip_toArray, List.zip_cons_cons, List.zip_nil_right, List.foldl_toArray', List.foldl_cons, List.foldl_nil, List.setIfInBounds_toArray, List.set_cons_succ, List.set_cons_zero]
    go_wp2_with fail
    refine region_in then_out rfl ?_
    go_wp2
    refine ⟨(Below.refl _ _).alloc (Nat.le_refl _) _, fun A3 hg3 hz3 hc3 => ?_⟩
    have hs3 : SameOn (fun k => k ≠ l) A A3 := (SameOn.of_new ((Below.refl _ _).alloc (Nat.le_refl _) _)).trans (.of_grown hg3 (fun k e h => by cases e; exact h rfl))
    have ka0 : A3.cell? ⟨A.heap.size, 0, none⟩ = some (.int .i64 t2.head) := (hc3 _ (by simp only; omega)).trans (cell_new _ _ _ _ rfl)
    have ka1 : A3.cell? ⟨A.heap.size, 1, none⟩ = some (.slice A2 t2.args.length c2) := (hc3 _ (by simp only; omega)).trans (cell_new _ _ _ _ rfl)
    have hz3' : A3.heap.size = A.heap.size + 1 := by rw [hz3]; simp
    clear hc3 hg3 hz3
    have h1 : A3.heap[n + 1]? = some (.cells #[.int .i64 (pre.length : Int)] 3) := (hs3.block _ (by omega) (by omega)).trans HI.out.h1
    have h2 : A3.heap[n + 1 + 1]? = some (.cells #[.int .i64 (mx pre : Int)] 3) := (hs3.block _ (by omega) (by omega)).trans HI.out.h2
    have h3 : A3.heap[n + 1 + 1 + 1]? = some (.cells #[.bool (bad pre)] 4) := (hs3.block _ (by omega) (by omega)).trans HI.out.h3
    have k1 := cell_of_block h1 (j := 0) (v := .int .i64 (pre.length : Int)) rfl
    have k2 := cell_of_block h2 (j := 0) (v := .int .i64 (mx pre : Int)) rfl
    have hpl : pre.length + 1 ≤ 1000000000 := by
      have h1 := HPRE.out.length_le
      have h2 := HS.out
      have e := T.pts_length 1 t
      unfold T.parts at h1
      simp only [List.length_append, List.length_cons, List.length_nil] at h1
      omega
    have H1 := Lib.hid h1
    have H2 := Lib.hid h2
    have H3 := Lib.hid h3
    have HS3 := Lib.hid hs3
    have HZ3 := Lib.hid hz3'
    have HSZ := Lib.hid hBA
    clear h1 h2 h3 hs3 hz3' hz5 hn hBA
    refine wpIn_block (wpIn_seq ?_)
    have HK12 : Hid (∀ W : World, SameOn (fun k => k ≠ n + 1) A3 W → W.cell? ⟨n + 1 + 1, 0, none⟩ = some (.int .i64 (mx pre : Int))) := by
      have : ∀ W : World, SameOn (fun k => k ≠ n + 1) A3 W → W.cell? ⟨n + 1 + 1, 0, none⟩ = some (.int .i64 (mx pre : Int)) := fun W h => h.cell (by simp) k2
      exact this
    clear k1 k2
    refine wp_inv_in ((then_out' (inBlock_out _ (roundGoes_out _)))) rfl 6 53 (fun ix u => match ix with | 0 => u = .int .i64 (pre.length : Int) | 1 => u = .int .i64 ((pre.length : Int) + 1) | 2 => u = .int .i64 (mx pre : Int) | 3 => u = .int .i64 (d2 : Int) | 4 => u = .int .i64 (if mx pre < d2 then (d2 : Int) else (mx pre : Int)) | 5 => u = undef | _ => True) (fun D W => SameOn (fun k => k ≠ n + 1) A3 W ∧ W.heap[n + 1]? = some (.cells #[.int .i64 (if D 5 = true then (pre.length : Int) + 1 else (pre.length : Int))] 3)) (by kernel_rfl) rfl (by decide +kernel) (⟨.of_new (Below.refl _ _).drew, H1.out⟩) ?_ ?_
    · refine ⟨?_, ⟨?_, ⟨?_, ⟨?_, ⟨?_, ⟨?_, trivial⟩⟩⟩⟩⟩⟩
      · intro ρ W D hI hcl hDi hdep hc hg hf hbase hdeps
        have r3 := hbase 3 (by kernel_rfl)
        clear hbase hdeps
        have h5 : D 5 = false := closed_no hcl hDi (o := _) rfl (by kernel_rfl)
        have k1 := cell_of_block hI.2 (j := 0) rfl
        rw [h5] at k1
        clear h5
        go_simp
        exact ⟨hI, rfl⟩
      · intro ρ W D hI hcl hDi hdep hc hg hf hbase hdeps
        have r12 : ρ (.tmp 12) = .int .i64 (pre.length : Int) := (hdeps 0 _ 12 (by kernel_rfl) rfl rfl)
        clear hbase hdeps
        have hwr : IntKind.i64.wrap ((pre.length : Int) + 1) = (pre.length : Int) + 1 := IntWalk.i64_in _ (by omega)
        go_simp
        exact ⟨hI, rfl⟩
      · intro ρ W D hI hcl hDi hdep hc hg hf hbase hdeps
        have r4 := hbase 4 (by kernel_rfl)
        clear hbase hdeps
        have k2 := HK12.out W hI.1
        go_simp
        exact ⟨hI, rfl⟩
      · intro ρ W D hI hcl hDi hdep hc hg hf hbase hdeps
        have r6 := hbase 6 (by kernel_rfl)
        clear hbase hdeps
        go_simp
        exact ⟨hI, rfl⟩
      · intro ρ W D hI hcl hDi hdep hc hg hf hbase hdeps
        have r14 : ρ (.tmp 14) = .int .i64 (mx pre : Int) := (hdeps 2 _ 14 (by kernel_rfl) rfl rfl)
        have r15 : ρ (.tmp 15) = .int .i64 (d2 : Int) := (hdeps 3 _ 15 (by kernel_rfl) rfl rfl)
        clear hbase hdeps
        go_simp
        exact ⟨hI, rfl⟩
      · intro ρ W D hI hcl hDi hdep hc hg hf hbase hdeps
        have r3 := hbase 3 (by kernel_rfl)
        have r13 : ρ (.tmp 13) = .int .i64 ((pre.length : Int) + 1) := (hdeps 1 _ 13 (by kernel_rfl) rfl rfl)
        clear hbase hdeps
        have k1 := cell_of_block hI.2 (j := 0) rfl
        have k1f := frozen_of_block hI.2 0
        go_simp
        exact ⟨⟨hI.1.trans (SameOn.set _ _ _ (fun h => h rfl)), heap_setCell_at hI.2 0 _⟩, rfl⟩
    · intro us W1 hW1 hus
      have hu0 : us 0 = .int .i64 (pre.length : Int) := hus 0 _ (by decide) rfl rfl
      have hu1 : us 1 = .int .i64 ((pre.length : Int) + 1) := hus 1 _ (by decide) rfl rfl
      have hu2 : us 2 = .int .i64 (mx pre : Int) := hus 2 _ (by decide) rfl rfl
      have hu3 : us 3 = .int .i64 (d2 : Int) := hus 3 _ (by decide) rfl rfl
      have hu4 : us 4 = .int .i64 (if mx pre < d2 then (d2 : Int) else (mx pre : Int)) := hus 4 _ (by decide) rfl rfl
      clear hus
      simp only [List.drop_succ_cons, List.drop_zero, List.take_succ_cons, List.take_zero, fill, Act.put, List.setIfInBounds_toArray, List.set_cons_succ, List.set_cons_zero, hu0, hu1, hu2, hu3, hu4]
      clear hu0 hu1 hu2 hu3 hu4
      obtain ⟨w1s, w1h⟩ := hW1
      have w1h' : W1.heap[n + 1]? = some (.cells #[.int .i64 ((pre.length : Int) + 1)] 3) := by simpa using w1h
      have w2h := (w1s.block (n + 1 + 1) (by have := H2.out; exact (Array.getElem?_eq_some_iff.1 this).1) (by simp)).trans H2.out
      have w3h := (w1s.block (n + 1 + 1 + 1) (by have := H3.out; exact (Array.getElem?_eq_some_iff.1 this).1) (by omega)).trans H3.out
      have k2 := cell_of_block w2h (j := 0) (v := .int .i64 (mx pre : Int)) rfl
      have k2f := frozen_of_block w2h 0
      have HW1 := Lib.hid w1s
      have HH1 := Lib.hid w1h'
      have HH2 := Lib.hid w2h
      have HH3 := Lib.hid w3h
      have hq0 := w1s.cell (p := ⟨A.heap.size, 0, none⟩) (by show A.heap.size ≠ n + 1; have := HZ5.out; have := HSZ.out; omega) ka0
      have hq1 := w1s.cell (p := ⟨A.heap.size, 1, none⟩) (by show A.heap.size ≠ n + 1; have := HZ5.out; have := HSZ.out; omega) ka1
      have HQ0 := Lib.hid hq0
      have HQ1 := Lib.hid hq1
      clear w1s w1h w1h' w2h w3h ka0 ka1 hq0 hq1
      generalize hmd : (if mx pre < d2 then (d2 : Int) else (mx pre : Int)) = md at *
      have HMD := Lib.hid hmd
      clear hmd
      go_wp2
      have h2' : (W1.setCell ⟨n + 1 + 1, 0, none⟩ (.int .i64 md)).heap[n + 1 + 1]? = some (.cells #[.int .i64 md] 3) := heap_setCell_at HH2.out 0 _
      have hs2 : SameOn (fun k => k ≠ n + 1 + 1) W1 (W1.setCell ⟨n + 1 + 1, 0, none⟩ (.int .i64 md)) := SameOn.set _ _ _ (fun h => h rfl)
      generalize (W1.setCell ⟨n + 1 + 1, 0, none⟩ (.int .i64 md)) = W2 at *
      have h1' := (hs2.block (n + 1) (by exact (Array.getElem?_eq_some_iff.1 HH1.out).1) (by omega)).trans HH1.out
      have h3' := (hs2.block (n + 1 + 1 + 1) (by exact (Array.getElem?_eq_some_iff.1 HH3.out).1) (by omega)).trans HH3.out
      have q0 := hs2.cell (p := ⟨A.heap.size, 0, none⟩) (by show A.heap.size ≠ n + 1 + 1; have := HZ5.out; have := HSZ.out; omega) HQ0.out
      have q1 := hs2.cell (p := ⟨A.heap.size, 1, none⟩) (by show A.heap.size ≠ n + 1 + 1; have := HZ5.out; have := HSZ.out; omega) HQ1.out
      have k3 := cell_of_block h3' (j := 0) (v := .bool (bad pre)) rfl
      have k3f := frozen_of_block h3' 0
      have HS2 := Lib.hid hs2
      have G1 := Lib.hid h1'
      have G2 := Lib.hid h2'
      have G3 := Lib.hid h3'
      clear hs2 h1' h2' h3' k2 k2f
      refine region_in (inBlock_out _ (roundGoes_out _)) rfl ?_
      have HHI := Lib.hid hi2
      have HHL := Lib.hid hl
      have HHLA := Lib.hid hlA
      clear hi hi2 hl hlA hpl
      rcases hbp : bad pre with _ | _
      · rw [hbp] at k3
        have HBP := Lib.hid hbp
        clear hbp
        by_cases c1 : t2.head < 0
        · by_cases c2 : 0 < t2.args.length
          ·
            go_wp2
            show ∃ V', _
            refine check_step HI.out HHL.out (by have := HZ5.out; omega) HS3.out (((HW1.out.mono fun k hk => hk.1).trans (HS2.out.mono fun k hk => hk.2.1)).trans (SameOn.set _ _ _ (fun h => h.2.2 rfl))) ((Below.heap_setCell _ _ _ _ (by simp)).trans G1.out) ((Below.heap_setCell _ _ _ _ (by simp)).trans (G2.out.trans (by rw [HMD.out]))) ?_
            have e : (bad pre || badHere t2) = true := by
              have hbp := HBP.out
              unfold badHere okHere
              simp [c1, c2]
            rw [e]
            exact heap_setCell_at G3.out 0 _
          · by_cases c3 : t2.head < -256
            ·
              go_wp2
              show ∃ V', _
              refine check_step HI.out HHL.out (by have := HZ5.out; omega) HS3.out (((HW1.out.mono fun k hk => hk.1).trans (HS2.out.mono fun k hk => hk.2.1)).trans (SameOn.set _ _ _ (fun h => h.2.2 rfl))) ((Below.heap_setCell _ _ _ _ (by simp)).trans G1.out) ((Below.heap_setCell _ _ _ _ (by simp)).trans (G2.out.trans (by rw [HMD.out]))) ?_
              have e : (bad pre || badHere t2) = true := by
                have hbp := HBP.out
                unfold badHere okHere
                simp [c3]
              rw [e]
              exact heap_setCell_at G3.out 0 _
            · have c4 : ¬ (1023 < t2.head) := by omega
              have c5 : ¬ (8 < t2.args.length) := by omega
              go_wp2
              show ∃ V', _
              refine check_step HI.out HHL.out (by have := HZ5.out; omega) HS3.out (((HW1.out.mono fun k hk => hk.1).trans (HS2.out.mono fun k hk => hk.2.1)).trans (SameOn.set _ _ _ (fun h => h.2.2 rfl))) ((Below.heap_setCell _ _ _ _ (by simp)).trans G1.out) ((Below.heap_setCell _ _ _ _ (by simp)).trans (G2.out.trans (by rw [HMD.out]))) ?_
              have e : (bad pre || badHere t2) = decide (8 < (t2.args.length : Int)) := by
                have hbp := HBP.out
                unfold badHere okHere
                rw [hbp]; have d3 : ¬ t2.head < -256 := (by omega); have c6 : ¬ (8 < (t2.args.length : Int)) := (by omega); have c7 : t2.args.length = 0 := (by omega); have d4 : ¬ 1023 < t2.head := (by omega); simp [d3, d4, c7]
              rw [e]
              exact heap_setCell_at G3.out 0 _
        · have c3 : ¬ (t2.head < -256) := by omega
          by_cases c4 : 1023 < t2.head
          ·
            go_wp2
            show ∃ V', _
            refine check_step HI.out HHL.out (by have := HZ5.out; omega) HS3.out (((HW1.out.mono fun k hk => hk.1).trans (HS2.out.mono fun k hk => hk.2.1)).trans (SameOn.set _ _ _ (fun h => h.2.2 rfl))) ((Below.heap_setCell _ _ _ _ (by simp)).trans G1.out) ((Below.heap_setCell _ _ _ _ (by simp)).trans (G2.out.trans (by rw [HMD.out]))) ?_
            have e : (bad pre || badHere t2) = true := by
              have hbp := HBP.out
              unfold badHere okHere
              simp [c4]
            rw [e]
            exact heap_setCell_at G3.out 0 _
          · by_cases c5 : 8 < t2.args.length
            ·
              go_wp2
              show ∃ V', _
              refine check_step HI.out HHL.out (by have := HZ5.out; omega) HS3.out (((HW1.out.mono fun k hk => hk.1).trans (HS2.out.mono fun k hk => hk.2.1)).trans (SameOn.set _ _ _ (fun h => h.2.2 rfl))) ((Below.heap_setCell _ _ _ _ (by simp)).trans G1.out) ((Below.heap_setCell _ _ _ _ (by simp)).trans (G2.out.trans (by rw [HMD.out]))) ?_
              have e : (bad pre || badHere t2) = decide (8 < (t2.args.length : Int)) := by
                have hbp := HBP.out
                unfold badHere okHere
                have d3 : ¬ t2.head < -256 := (by omega); have c6 : (8 < (t2.args.length : Int)) := (by omega); simp [c5, c6]
              rw [e]
              exact heap_setCell_at G3.out 0 _
            ·
              go_wp2
              show ∃ V', _
              refine check_step HI.out HHL.out (by have := HZ5.out; omega) HS3.out (((HW1.out.mono fun k hk => hk.1).trans (HS2.out.mono fun k hk => hk.2.1)).trans (SameOn.set _ _ _ (fun h => h.2.2 rfl))) ((Below.heap_setCell _ _ _ _ (by simp)).trans G1.out) ((Below.heap_setCell _ _ _ _ (by simp)).trans (G2.out.trans (by rw [HMD.out]))) ?_
              have e : (bad pre || badHere t2) = decide (8 < (t2.args.length : Int)) := by
                have hbp := HBP.out
                unfold badHere okHere
                rw [hbp]; have d3 : ¬ t2.head < -256 := (by omega); have c6 : ¬ (8 < (t2.args.length : Int)) := (by omega); have c7 : ¬ t2.head < 0 := (by omega); have d4 : ¬ 1023 < t2.head := (by omega); simp only [d3, d4, c5, c6, c7, decide_false, Bool.false_and, Bool.not_false, Bool.and_true, Bool.not_true, Bool.or_false]
              rw [e]
              exact heap_setCell_at G3.out 0 _
      · rw [hbp] at k3
        have HBP := Lib.hid hbp
        clear hbp
        go_wp2
        show ∃ V', _
        refine check_step HI.out HHL.out (by have := HZ5.out; omega) HS3.out (((HW1.out.mono fun k hk => hk.1).trans (HS2.out.mono fun k hk => hk.2.1)).trans (SameOn.set _ _ _ (fun h => h.2.2 rfl))) ((Below.heap_setCell _ _ _ _ (by simp)).trans G1.out) ((Below.heap_setCell _ _ _ _ (by simp)).trans (G2.out.trans (by rw [HMD.out]))) ?_
        have e : (bad pre || badHere t2) = true := by
          have hbp := HBP.out
          unfold badHere okHere
          rw [hbp]; rfl
        rw [e]
        exact heap_setCell_at G3.out 0 _
end Go.Proofs.Ytokhnlhffnidmaa
