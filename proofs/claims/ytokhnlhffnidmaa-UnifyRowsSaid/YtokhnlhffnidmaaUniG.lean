/- The solver's full: a term with all that is bound put. -/
import Derived.Test.YtokhnlhffnidmaaUniA
import Derived.Test.YtokhnlhffnidmaaPlainG
import Derived.Test.YtokhnlhffnidmaaStk
namespace Go.Proofs.Ytokhnlhffnidmaa
open Go.RowKit Elen

set_option maxRecDepth 100000 in
set_option maxHeartbeats 1000000 in
theorem full_calls (U : List T) (s : Sub) (hU : Cl U s) (sp mb nn : Nat) (D : Int → Option Value) :
    ∀ (z : Nat) (t t' : T) (v : Value) (F : Nat → Prop) (w : World), t'.size ≤ z → t'.size ≤ 1000000000 → t ∈ U → Full s t t' → Solv F w sp mb nn s D → VF F w t v → (∀ k, F k → k < w.heap.size) →
    Calls Try.prog 35 #[.pointer (some ⟨sp, 0, none⟩), v] w (NewT t' w) := by
  intro z
  induction z with
  | zero => intro t t' v F w h; have := T.size_pos t'; omega
  | succ z ih =>
  intro t t' v F w hz hz9 htU hf hS ht hF
  obtain ⟨x, y, rfl, ht⟩ := ht
  obtain ⟨rfl, hi, hsl⟩ := ht.parts
  obtain ⟨A, c, rfl, -, -⟩ := hsl.shapeT
  obtain ⟨tu, hwk, hfu⟩ := Walk.of_full hf
  have huU := hU.walk hwk htU
  obtain ⟨ls, hls, hch, hmk⟩ := hU.under huU hfu hwk.free_of
  have HS := Lib.hid hS
  have HT := Lib.hid ht
  have HF := Lib.hid hF
  have HWK := Lib.hid hwk
  have HUU := Lib.hid huU
  have HLS := Lib.hid hls
  have HCH := Lib.hid hch
  have HMK := Lib.hid hmk
  have IH := Lib.hid ih
  have HZ := Lib.hid hz
  have HZ9 := Lib.hid hz9
  have hll : ls.length ≤ 1000000000 := by
    have h1 := HZ9.out
    rw [HMK.out] at h1
    have h2 : ∀ l : List T, l.length ≤ T.sizeL l := by
      intro l
      induction l with
      | nil => simp
      | cons a l ih => simp only [List.length_cons, T.sizeL]; have := T.size_pos a; omega
    have := h2 ls
    simp only [T.size] at h1; omega
  clear hS ht hF hwk huU hls hch hmk ih hz hz9 hfu hf hsl
  have hb0 : Below w.heap.size w (allocs w [.cells #[.int .i64 t.head, .slice A t.args.length c] 24, .cells #[.int .i64 0, .slice none 0 0] 24]) := allocs_below _ _ (Nat.le_refl _)
  have hat := at_calls F sp mb nn s D t tu _ _ (HS.out.later hb0) (VF.of_ (HT.out.later hb0)) HWK.out
  have HAT := Lib.hid hat
  have HB0 := Lib.hid hb0
  clear hat hb0
  go_enter Try.func35, Try.ntmps35
  go_wp2_with fail
  refine HAT.out.mono ?_
  rintro e w1 ⟨vu, rfl, ⟨xu, yu, rfl, hu⟩, hb1⟩
  obtain ⟨rfl, hiu, hsu⟩ := hu.parts
  obtain ⟨Au, cu, rfl, -, -⟩ := hsu.shapeT
  have g3 := (hb1.block w.heap.size (by rw [allocs_size]; simp)).trans (allocs_get [.cells #[.int .i64 t.head, .slice A t.args.length c] 24, .cells #[.int .i64 0, .slice none 0 0] 24] w 0 (by simp))
  have g4 := (hb1.block (w.heap.size + 1) (by rw [allocs_size]; simp)).trans (allocs_get [.cells #[.int .i64 t.head, .slice A t.args.length c] 24, .cells #[.int .i64 0, .slice none 0 0] 24] w 1 (by simp))
  simp only [List.getElem_cons_zero, List.getElem_cons_succ] at g3 g4
  have hz1 : w.heap.size + 2 ≤ w1.heap.size := by have := hb1.size; rw [allocs_size] at this; simpa using this
  have hbw1 := HB0.out.trans (hb1.mono (by rw [allocs_size]; omega))
  have k30 := cell_of_block g3 (j := 0) (v := .int .i64 t.head) rfl
  have k31 := cell_of_block g3 (j := 1) (v := .slice A t.args.length c) rfl
  have k3f0 := frozen_of_block g3 0
  have k3f1 := frozen_of_block g3 1
  have HG3 := Lib.hid g3
  have HG4 := Lib.hid g4
  have HU := Lib.hid hu
  have HI := Lib.hid hiu
  have HB1 := Lib.hid hbw1
  clear g3 g4 hu hsu hb1 hbw1
  go_upto_region 3 with fail
  have hze : ((w1.setCell ⟨w.heap.size, 0, none⟩ (.int .i64 tu.head)).setCell ⟨w.heap.size, 1, none⟩ (.slice Au tu.args.length cu)).heap.size = w1.heap.size := by simp [World.setCell]
  have hsm : SameOn (fun k => k < w.heap.size ∨ k = w.heap.size + 1) w1 (((w1.setCell ⟨w.heap.size, 0, none⟩ (.int .i64 tu.head)).setCell ⟨w.heap.size, 1, none⟩ (.slice Au tu.args.length cu)).alloc (.cells #[.int .i64 tu.head, .slice none 0 0] 24)) := (SameOn.set _ ⟨w.heap.size, 0, none⟩ _ (by simp)).trans ((SameOn.set _ ⟨w.heap.size, 1, none⟩ _ (by simp)).trans (.of_new ((Below.refl _ _).alloc (Nat.le_refl _) _)))
  have g3 : (((w1.setCell ⟨w.heap.size, 0, none⟩ (.int .i64 tu.head)).setCell ⟨w.heap.size, 1, none⟩ (.slice Au tu.args.length cu)).alloc (.cells #[.int .i64 tu.head, .slice none 0 0] 24)).heap[w.heap.size]? = some (.cells #[.int .i64 tu.head, .slice Au tu.args.length cu] 24 (0, 0)) := by
    rw [Below.heap_alloc _ _ _ (by rw [hze]; omega)]
    exact heap_setCell_at (heap_setCell_at HG3.out 0 (.int .i64 tu.head)) 1 (.slice Au tu.args.length cu)
  have g5 : (((w1.setCell ⟨w.heap.size, 0, none⟩ (.int .i64 tu.head)).setCell ⟨w.heap.size, 1, none⟩ (.slice Au tu.args.length cu)).alloc (.cells #[.int .i64 tu.head, .slice none 0 0] 24)).heap[w1.heap.size]? = some (.cells #[.int .i64 tu.head, .slice none 0 0] 24 (0, 0)) := by
    have := World.alloc_heap_new ((w1.setCell ⟨w.heap.size, 0, none⟩ (.int .i64 tu.head)).setCell ⟨w.heap.size, 1, none⟩ (.slice Au tu.args.length cu)) (.cells #[.int .i64 tu.head, .slice none 0 0] 24)
    rwa [hze] at this
  have hz2 : (((w1.setCell ⟨w.heap.size, 0, none⟩ (.int .i64 tu.head)).setCell ⟨w.heap.size, 1, none⟩ (.slice Au tu.args.length cu)).alloc (.cells #[.int .i64 tu.head, .slice none 0 0] 24)).heap.size = w1.heap.size + 1 := by rw [World.size_alloc, hze]
  generalize (((w1.setCell ⟨w.heap.size, 0, none⟩ (.int .i64 tu.head)).setCell ⟨w.heap.size, 1, none⟩ (.slice Au tu.args.length cu)).alloc (.cells #[.int .i64 tu.head, .slice none 0 0] 24)) = W2 at *
  generalize hob : w1.heap.size = ob at *
  have g4 := (hsm.block (w.heap.size + 1) (by omega) (.inr rfl)).trans HG4.out
  have hB2 : Below w.heap.size w W2 := HB1.out.trans (hsm.below (by omega) (fun _ h => .inl h))
  have hu2 : IsF F W2 tu (.int .i64 tu.head) (.slice Au tu.args.length cu) := HU.out.same hsm (fun k hk => .inl (HF.out k hk))
  have hs2 : Solv F W2 sp mb nn s D := HS.out.same (S := fun k => k < w.heap.size) (.of_below hB2 (fun _ h _ => h)) HF.out (World.block_lt_of_cell? w _ HS.out.ptr) HS.out.map.lt
  have k30 := cell_of_block g3 (j := 0) (v := .int .i64 tu.head) rfl
  have k31 := cell_of_block g3 (j := 1) (v := .slice Au tu.args.length cu) rfl
  have H3 := Lib.hid g3
  have H4 := Lib.hid g4
  have H5 := Lib.hid g5
  have HB2 := Lib.hid hB2
  have HU2 := Lib.hid hu2
  have HS2 := Lib.hid hs2
  have HZ2 := Lib.hid hz2
  have hob1 : w.heap.size + 2 ≤ ob := hz1
  clear hze hsm g3 g4 g5 hB2 hu2 hs2 hz2 hob k3f0 k3f1 hz1
  go_wp2_with fail
  go_loopg [17] (tu.args.length + 1) (fun k i wr => ∃ (d : Nat) (v : Value), d + k = tu.args.length + 1 ∧ i = .int .i64 d ∧ Below ob W2 wr ∧ ob + 1 ≤ wr.heap.size ∧
    wr.heap[ob]? = some (.cells #[.int .i64 tu.head, v] 24 (0, 0)) ∧ Own KT 24 (ob + 1 ≤ ·) (ob + 1) wr v (ls.take d))
  case atStart => exact ⟨0, .slice none 0 0, by omega, rfl, Below.refl _ _, by have := HZ2.out; omega, H5.out, Own.nil _ _ _ _ _⟩
  case round =>
    obtain ⟨d, v, hd, rfl, hB, hzr, g5, hO⟩ := hrel
    obtain ⟨Av, cv, hv⟩ := hO.shape
    subst hv
    obtain ⟨nv, hnv⟩ : ∃ nv, (List.take d ls).length = nv := ⟨_, rfl⟩
    rw [hnv] at g5 hO
    have HB := Lib.hid hB
    have HG5 := Lib.hid g5
    have HO := Lib.hid hO
    have kh := cell_of_block g5 (j := 0) (v := .int .i64 tu.head) rfl
    have kv := cell_of_block g5 (j := 1) (v := .slice Av nv cv) rfl
    clear hB g5 hO
    by_cases hdl : d < tu.args.length
    · have hdls : d < ls.length := by have := HLS.out; omega
      have hbo : SameOn (fun k => k < ob) W2 wr := .of_below HB.out (fun _ h _ => h)
      have hur := HU2.out.same hbo (fun k hk => by have := HF.out k hk; omega)
      have hsr := HS2.out.same hbo (fun k hk => by have := HF.out k hk; omega) (by have : sp < w.heap.size := World.block_lt_of_cell? w _ HS.out.ptr; omega) (by have := HS.out.map.lt; omega)
      obtain ⟨b1, o1, rfl, -, -, hcs⟩ := hur.parts.2.2.cells (by omega)
      obtain ⟨xa, ya, ka0, ka1, hxa⟩ := hcs d hdl
      obtain ⟨rfl, hia, hsa⟩ := hxa.parts
      obtain ⟨Aa, ca, rfl, -, -⟩ := hsa.shapeT
      have HXA := Lib.hid hxa
      have HSR := Lib.hid hsr
      obtain ⟨e2, e3⟩ := HCH.out d hdl hdls
      have E2 := Lib.hid e2
      have E3 := Lib.hid e3
      have HMEM := Lib.hid (hU.args _ HUU.out _ (List.getElem_mem hdl))
      clear hbo hur hsr hcs hxa hsa e2 e3
      go_upto_region 6 with fail
      have hn6 := World.alloc_heap_new wr (.cells #[.int .i64 tu.args[d].head, .slice Aa tu.args[d].args.length ca] 24)
      have hb6 : Below wr.heap.size wr (wr.alloc (.cells #[.int .i64 tu.args[d].head, .slice Aa tu.args[d].args.length ca] 24)) := (Below.refl _ _).alloc (Nat.le_refl _) _
      have hz6 : (wr.alloc (.cells #[.int .i64 tu.args[d].head, .slice Aa tu.args[d].args.length ca] 24)).heap.size = wr.heap.size + 1 := by simp
      generalize (wr.alloc (.cells #[.int .i64 tu.args[d].head, .slice Aa tu.args[d].args.length ca] 24)) = W6 at *
      have k60 := cell_of_block hn6 (j := 0) (v := .int .i64 tu.args[d].head) rfl
      have k61 := cell_of_block hn6 (j := 1) (v := .slice Aa tu.args[d].args.length ca) rfl
      have kv6 := cell_kept hb6 kv
      have HB6 := Lib.hid hb6
      have HZ6 := Lib.hid hz6
      clear hn6 hb6 hz6 ka0 ka1 kh kv k30 k31
      refine wp_mix 6 31 (fun ix W u => match ix with | 0 => u = .pointer (some ⟨ob, 1, none⟩) | 1 => u = .slice Av nv cv | 2 => u = .pointer (some ⟨sp, 0, none⟩) | 3 => u = .agg #[.int .i64 tu.args[d].head, .slice Aa tu.args[d].args.length ca] | 4 => VF (wr.heap.size ≤ ·) W ls[d] u | 5 => ∃ b, u = .slice (some ⟨b, 0, none⟩) 1 1 ∧ Row KT (wr.heap.size ≤ ·) W [ls[d]] b 0 | _ => True) (by kernel_rfl) rfl (by decide +kernel) (fun ix W W' u hb h => by match ix, h with | 0, h => exact h | 1, h => exact h | 2, h => exact h | 3, h => exact h | 4, h => exact h.later hb | 5, h => exact (by obtain ⟨b, e, hr⟩ := h; exact ⟨b, e, hr.later hb⟩) | _ + 6, h => exact h) ?_ ?_
      · refine goes_cons rfl ?_ (goes_cons rfl ?_ (goes_cons rfl ?_ (goes_cons rfl ?_ (goes_cons rfl ?_ (goes_cons rfl ?_ (goes_nil))))))
        · intro ρ W hW hc hg hf hbase hdeps
          obtain ⟨hk, -⟩ := bcell hW
          have r5 := hbase 5 (by kernel_rfl)
          clear hbase hdeps
          have kk1 := cell_kept hW k60
          have kk2 := cell_kept hW k61
          have kk3 := cell_kept hW kv6
          go_simp
          exact ⟨Below.refl _ _, rfl⟩
        · intro ρ W hW hc hg hf hbase hdeps
          obtain ⟨hk, -⟩ := bcell hW
          have r21 : ρ (.tmp 21) = .pointer (some ⟨ob, 1, none⟩) := hdeps 0 _ 21 (by kernel_rfl) rfl rfl
          clear hbase hdeps
          have kk1 := cell_kept hW k60
          have kk2 := cell_kept hW k61
          have kk3 := cell_kept hW kv6
          go_simp
          exact ⟨Below.refl _ _, rfl⟩
        · intro ρ W hW hc hg hf hbase hdeps
          obtain ⟨hk, -⟩ := bcell hW
          have r0 := hbase 0 (by kernel_rfl)
          clear hbase hdeps
          have kk1 := cell_kept hW k60
          have kk2 := cell_kept hW k61
          have kk3 := cell_kept hW kv6
          go_simp
          exact ⟨Below.refl _ _, rfl⟩
        · intro ρ W hW hc hg hf hbase hdeps
          obtain ⟨hk, -⟩ := bcell hW
          have r7 := hbase 7 (by kernel_rfl)
          clear hbase hdeps
          have kk1 := cell_kept hW k60
          have kk2 := cell_kept hW k61
          have kk3 := cell_kept hW kv6
          go_simp
          exact ⟨Below.refl _ _, rfl⟩
        · intro ρ W hW hc hg hf hbase hdeps
          obtain ⟨hk, -⟩ := bcell hW
          have r23 : ρ (.tmp 23) = .pointer (some ⟨sp, 0, none⟩) := hdeps 2 _ 23 (by kernel_rfl) rfl rfl
          have r24 : ρ (.tmp 24) = .agg #[.int .i64 tu.args[d].head, .slice Aa tu.args[d].args.length ca] := hdeps 3 _ 24 (by kernel_rfl) rfl rfl
          clear hbase hdeps
          have kk1 := cell_kept hW k60
          have kk2 := cell_kept hW k61
          have kk3 := cell_kept hW kv6
          go_simp
          refine (IH.out tu.args[d] _ _ F W (by have := E3.out; have := HZ.out; omega) (by have := E3.out; have := HZ9.out; omega) HMEM.out E2.out ((HSR.out.later HB6.out).later hW) (VF.of_ ((HXA.out.later HB6.out).later hW)) (fun k hk => by have := HF.out k hk; have := HZ6.out; have := hW.size; omega)).mono ?_; rintro e w1 ⟨u, rfl, hu, hB1⟩; exact ⟨_, rfl, hB1, hu.mono (fun b hb => by have := hW.size; have := HZ6.out; omega)⟩
        · intro ρ W hW hc hg hf hbase hdeps
          obtain ⟨hk, -⟩ := bcell hW
          have r25 : (fun u => VF (wr.heap.size ≤ ·) W ls[d] u) (ρ (.tmp 25)) := hdeps 4 _ 25 (by kernel_rfl) rfl rfl
          dsimp only at r25
          obtain ⟨u25, e25⟩ : ∃ u, ρ (.tmp 25) = u := ⟨_, rfl⟩
          rw [e25] at r25
          clear hbase hdeps
          have kk1 := cell_kept hW k60
          have kk2 := cell_kept hW k61
          have kk3 := cell_kept hW kv6
          obtain ⟨xx, yy, rfl, hxy⟩ := r25
          go_simp
          exact ⟨(Below.refl _ _).alloc (Nat.le_refl _) _, _, rfl, row_of_block (K := KT) ⟨_, _, rfl, hxy⟩ _⟩
      · intro us W1 hW1 hus
        have hu0 : us 0 = .pointer (some ⟨ob, 1, none⟩) := hus 0 (by decide)
        have hu1 : us 1 = .slice Av nv cv := hus 1 (by decide)
        have hu2 : us 2 = .pointer (some ⟨sp, 0, none⟩) := hus 2 (by decide)
        have hu3 : us 3 = .agg #[.int .i64 tu.args[d].head, .slice Aa tu.args[d].args.length ca] := hus 3 (by decide)
        have hu4 : (fun u W => VF (wr.heap.size ≤ ·) W ls[d] u) (us 4) W1 := hus 4 (by decide)
        dsimp only at hu4
        have hu5 : (fun u W => ∃ b, u = .slice (some ⟨b, 0, none⟩) 1 1 ∧ Row KT (wr.heap.size ≤ ·) W [ls[d]] b 0) (us 5) W1 := hus 5 (by decide)
        dsimp only at hu5
        clear hus
        simp only [List.drop_succ_cons, List.drop_zero, List.take_succ_cons, List.take_zero, fill, Act.put, List.setIfInBounds_toArray, List.set_cons_succ, List.set_cons_zero, hu0, hu1, hu2, hu3]
        clear hu0 hu1 hu2 hu3
        generalize us 4 = u4 at *
        generalize us 5 = u5 at *
        obtain ⟨bn, rfl, hrow⟩ := hu5
        clear hu4
        have hw1 : Below wr.heap.size wr W1 := HB6.out.trans (hW1.mono (by have := HZ6.out; omega))
        have hO1 := HO.out.later hw1
        have hbl := HO.out.block
        have g5 := (hw1.block ob (by omega)).trans HG5.out
        have hzw := hw1.size
        refine wp_append (K := KT) (F := (ob + 1 ≤ ·)) (F1 := (wr.heap.size ≤ ·)) (ob + 1) ?a1 (.tmp 22) (.tmp 26) 22 24 (.agg #[.int .i64 0, .slice none 0 0]) ?a2 Try.underlying22 Try.infoT ?a3 (.slice Av nv cv) (ls.take d) [ls[d]] ?a4 bn 0 1 ?a5 hO1 hrow ?_ ?_ ?a6 ?_
        case a1 => rfl
        case a2 => rfl
        case a3 => rfl
        case a4 => rfl
        case a5 => rfl
        case a6 => omega
        · intro b hb1 _
          refine ⟨by omega, fun e => ?_⟩
          have := hbl b e.symm
          omega
        · have : (KT).by_ = 32 := rfl
          rw [this]; simp; omega
        intro v1 w1' hO2 hgr hat hsl
        obtain ⟨gg, cp, hv1⟩ := hsl (by simp)
        subst hv1
        generalize (List.take d ls).length + [ls[d]].length = nn at *
        have hne : (Value.slice Av nv cv).ownBlock ≠ some ob := fun e => by have := hbl _ e; omega
        have g5' := (hgr.block _ (by omega) (fun e => hne e.symm)).trans g5
        have hb3 : Below ob W2 w1' := (HB.out.trans (hw1.mono (by omega))).grown hgr (by have := HB.out.size; have := HZ2.out; omega) (fun k e => by have := hbl k e; omega)
        have kk := cell_of_block g5' (j := 1) (v := .slice Av nv cv) rfl
        have kf := frozen_of_block g5' 1
        have hgs := grownBy_setCell w1' ⟨ob, 1, none⟩ (.slice (some ⟨gg, 0, none⟩) nn cp)
        have hO3 : Own KT 24 (ob + 1 ≤ ·) (ob + 1) (w1'.setCell ⟨ob, 1, none⟩ (.slice (some ⟨gg, 0, none⟩) nn cp)) (.slice (some ⟨gg, 0, none⟩) nn cp) (ls.take (d + 1)) := by
          have e : ls.take (d + 1) = ls.take d ++ [ls[d]] := by rw [List.take_succ_eq_append_getElem hdls]
          rw [e]
          refine hO2.grown hgs (fun k e => ?_)
          cases e
          exact ⟨by simp, fun e => by have := hO2.block _ e; simp at this <;> omega⟩
        have HO3 := Lib.hid hO3
        have HB3 := Lib.hid (hb3.setCell (p := ⟨ob, 1, none⟩) (by simp) (.slice (some ⟨gg, 0, none⟩) nn cp))
        have HG5' := Lib.hid (heap_setCell_at g5' 1 (.slice (some ⟨gg, 0, none⟩) nn cp))
        have q6 : ob + 1 ≤ w1'.heap.size := by have := hgr.size; omega
        clear hO2 hgr hat hne g5' hb3 hgs hO3 g5 hO1 hbl hrow hw1 hzw hW1 k60 k61 kv6
        go_wp2
        go_roundg (gk - 1)
        case rel => exact ⟨d + 1, _, by omega, by go_num, HB3.out, by simpa using q6, HG5'.out, HO3.out⟩
        case measure => omega
    · have hdd : ls.take d = ls := List.take_of_length_le (by have := HLS.out; omega)
      have hO := HO.out
      rw [hdd] at hO
      have HSL := Lib.hid ((hO.sl.mono (fun b hb => by
        rcases hb with h | h
        · exact h
        · have := (hO.block b h.symm).1; omega) : Sl KT (ob + 1 ≤ ·) wr ls (.slice Av nv cv)))
      have h4 := (HB.out.block (w.heap.size + 1) (by omega)).trans H4.out
      have q0 := cell_of_block h4 (j := 0) (v := .int .i64 0) rfl
      have q1' := cell_of_block h4 (j := 1) (v := .slice none 0 0) rfl
      have f0 := frozen_of_block h4 0
      have f1 := frozen_of_block h4 1
      have s1 := heap_setCell_at h4 0 (.int .i64 tu.head)
      have s2 := heap_setCell_at s1 1 (.slice Av nv cv)
      have e0 := cell_of_block s2 (j := 0) (v := .int .i64 tu.head) rfl
      have e1 := cell_of_block s2 (j := 1) (v := .slice Av nv cv) rfl
      have hs3 : SameOn (fun k => k ≠ w.heap.size + 1) wr ((wr.setCell ⟨w.heap.size + 1, 0, none⟩ (.int .i64 tu.head)).setCell ⟨w.heap.size + 1, 1, none⟩ (.slice Av nv cv)) := (SameOn.set _ ⟨w.heap.size + 1, 0, none⟩ _ (by simp)).trans (SameOn.set _ ⟨w.heap.size + 1, 1, none⟩ _ (by simp))
      have HSL2 := Lib.hid (HSL.out.same hs3 (fun k hk => by omega))
      have hbz := HB2.out.size
      have HBE := Lib.hid ((HB2.out.trans (HB.out.mono (by omega))).trans (hs3.below (n := w.heap.size) (by have := HB.out.size; omega) (fun k hk => by omega)))
      clear s1 s2 hs3 h4 hO hdd k30 k31
      go_wp2
      refine bodyPost_ret (v := .agg #[.int .i64 tu.head, .slice Av nv cv]) (by simp [results, Try.results35, go_sem, e0, e1]) rfl ?_
      refine ⟨_, rfl, ⟨_, _, rfl, ?_⟩, HBE.out⟩
      rw [HMK.out]
      exact (HSL2.out.term HI.out).mono (fun b hb => by omega)
end Go.Proofs.Ytokhnlhffnidmaa
