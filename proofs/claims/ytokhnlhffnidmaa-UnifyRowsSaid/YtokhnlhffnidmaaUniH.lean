/- The solver's measure: how great a term is, behind all that is bound. -/
import Derived.Test.YtokhnlhffnidmaaUniC
import Derived.Test.YtokhnlhffnidmaaPlainG
import Derived.Laws.EntriesVeiled
namespace Go.Proofs.Ytokhnlhffnidmaa
open Go.RowKit Go.Shelf Elen

structure MeasC (F : Nat → Prop) (sp mb bk n0 : Nat) : Prop where
  f : ∀ k, F k → k < n0
  hsp : sp < n0
  hmb : mb < n0
  hbk : n0 ≤ bk

/-- size and depth, as far as they go -/
def m0 (t : T) : Int := ((min t.size 401 : Nat) : Int)
def m1 (t : T) : Int := ((min t.depth 41 : Nat) : Int)

structure MeasI (F : Nat → Prop) (sp mb nn : Nat) (s : Sub) (D : Int → Option Value) (bk n0 : Nat) (r : Option Nat) (Dk : Int → Option Value) (W : World) : Prop where
  ck : W.heap[bk]? = some (.cells #[.map r] 76 (0, 0))
  solv : Solv F W sp mb nn s D
  seen : ∀ k, r = some k → n0 ≤ k ∧ k ≠ bk ∧ MapI W k 256 Dk
  keys : ∀ k x, Dk k = some x → 0 ≤ k ∧ k < 256 ∧ ∃ a b : Int, x = .agg #[.int .i64 a, .int .i64 b] ∧ ∀ u u', s k = some u → Full s u u' → a = m0 u' ∧ b = m1 u'
def MeasPost (F : Nat → Prop) (sp mb nn : Nat) (s : Sub) (D : Int → Option Value) (bk n0 : Nat) (r : Option Nat) (W : World) (t' : T) (e : Ending) (W' : World) : Prop :=
  e = .returned (.agg #[.int .i64 (m0 t'), .int .i64 (m1 t')]) ∧ ∃ r' Dk', MeasI F sp mb nn s D bk n0 r' Dk' W' ∧ Rok r r' W ∧ SameOn (fun k => k ≠ bk ∧ r ≠ some k) W W'

section
variable {F : Nat → Prop} {sp mb nn : Nat} {s : Sub} {D Dk : Int → Option Value} {bk n0 : Nat} {r : Option Nat} {W W1 : World}
theorem MeasI.same {S : Nat → Prop} (h : MeasI F sp mb nn s D bk n0 r Dk W) (k : SameOn S W W1) (hF : ∀ k, F k → S k) (h1 : S sp) (h2 : S mb) (h5 : S bk) (h7 : ∀ k, r = some k → S k) : MeasI F sp mb nn s D bk n0 r Dk W1 where
  ck := (k.block _ (Array.getElem?_eq_some_iff.1 h.ck).1 h5).trans h.ck
  solv := h.solv.same k hF h1 h2
  seen j e := by
    obtain ⟨a1, a2, a6⟩ := h.seen j e
    exact ⟨a1, a2, a6.later (k.block j a6.lt (h7 j e))⟩
  keys := h.keys
theorem MeasI.ne_cells {mk : Nat} (h : MeasI F sp mb nn s D bk n0 (some mk) Dk W) {b : Nat} {cs : Array Value} {t : TypeId} {fr : Nat × Nat} (hb : W.heap[b]? = some (.cells cs t fr)) : mk ≠ b := by
  obtain ⟨-, -, ⟨E, ⟨es, clock, h1, _⟩, _⟩⟩ := h.seen mk rfl
  rintro rfl
  rw [hb] at h1; cases h1
theorem MeasI.later (h : MeasI F sp mb nn s D bk n0 r Dk W) (k : Below W.heap.size W W1) : MeasI F sp mb nn s D bk n0 r Dk W1 :=
  h.same (S := fun _ => True) (.of_new k) (fun _ _ => trivial) trivial trivial trivial (fun _ _ => trivial)
end

set_option maxRecDepth 100000 in
set_option maxHeartbeats 1000000 in
theorem mof_calls (F : Nat → Prop) (sp mb nn : Nat) (s : Sub) (D : Int → Option Value) (bk n0 : Nat) (hC : MeasC F sp mb bk n0) (r : Option Nat) (Dk : Int → Option Value) (W : World) (hI : MeasI F sp mb nn s D bk n0 r Dk W) (hz0 : n0 ≤ W.heap.size) (n : Int) (hn0 : 0 ≤ n) (hn1 : n < 256) (u u' : T)
    (hs : s n = some u) (hfu : Full s u u') (kt : Nat) (lt : Array Value) (hkt : ∀ args w, (callFunc kt args).run Try.prog w = .ok (.enter kt args) w)
    (htell : ∀ r1 Dk1 W1, MeasI F sp mb nn s D bk n0 r1 Dk1 W1 → Rok r r1 W → SameOn (fun k => k ≠ bk ∧ r ≠ some k) W W1 → Calls Try.prog kt lt W1 (MeasPost F sp mb nn s D bk n0 r1 W1 u')) :
    Calls Try.prog 50 #[.pointer (some ⟨bk, 0, none⟩), .int .i64 n, .func (.func kt) #[] lt] W (MeasPost F sp mb nn s D bk n0 r W u') := by
  have qn : ∀ (w : World) (r : Option Nat), (binOp .eql 74 (.map r) (.map none)).run Try.prog w = .ok (.bool r.isNone) w := fun w r => run_eql_map_nil w _ _ _ r Try.underlying74
  have hki : I64 n := by unfold I64; omega
  have hk0 := cell_of_block hI.ck (j := 0) (v := .map r) rfl
  have hkf := frozen_of_block hI.ck 0
  have hbk := World.block_lt_of_cell? W _ hk0
  have HI := Lib.hid hI
  have HT := Lib.hid htell
  have HS := Lib.hid hs
  have HF := Lib.hid hfu
  have HKI := Lib.hid hki
  have HCK := Lib.hid hI.ck
  clear hI htell hs hfu hki
  go_enter Try.func50, Try.ntmps50
  go_upto_if 14 with fail
  have hn0' := World.alloc_heap_new W (.cells #[.int .i64 0, .int .i64 0] 81)
  have hb0 : Below W.heap.size W (W.alloc (.cells #[.int .i64 0, .int .i64 0] 81)) := (Below.refl _ _).alloc (Nat.le_refl _) _
  have hz1 : (W.alloc (.cells #[.int .i64 0, .int .i64 0] 81)).heap.size = W.heap.size + 1 := by simp
  generalize (W.alloc (.cells #[.int .i64 0, .int .i64 0] 81)) = W0 at *
  have HB0 := Lib.hid hb0
  have HN0 := Lib.hid hn0'
  have HZ1 := Lib.hid hz1
  have HI0 := Lib.hid (HI.out.later hb0)
  have HCK0 := Lib.hid ((hb0.block bk hbk).trans HCK.out)
  have hk0' := cell_kept hb0 hk0
  have hkf' := frozen_of_block HCK0.out 0
  clear hb0 hn0' hz1 hk0 hkf
  go_cut [] (fun wc => ∃ mk Dk', MeasI F sp mb nn s D bk n0 (some mk) Dk' wc ∧ Rok r (some mk) W ∧ SameOn (fun k => k ≠ bk ∧ r ≠ some k) W0 wc)
  case first =>
    cases r with
    | none =>
      have hmm := @run_makeMap Try.prog
      have hlt := (Array.getElem?_eq_some_iff.1 HCK0.out).1
      go_wp2_with fail
      go_meet
      have hs0 : SameOn (fun k => k ≠ bk) W0 ((W0.setCell ⟨bk, 0, none⟩ (.map (some W0.heap.size))).alloc (.map #[] 0)) := (SameOn.set _ ⟨bk, 0, none⟩ _ (fun h => h rfl)).trans (SameOn.of_new ((Below.refl _ _).alloc (Nat.le_refl _) _))
      have hze : (W0.setCell ⟨bk, 0, none⟩ (.map (some W0.heap.size))).heap.size = W0.heap.size := by simp [World.setCell]
      have h1 : ((W0.setCell ⟨bk, 0, none⟩ (.map (some W0.heap.size))).alloc (.map #[] 0)).heap[bk]? = some (.cells #[.map (some W0.heap.size)] 76 (0, 0)) := (Below.heap_alloc _ _ _ (by rw [hze]; exact hlt)).trans (heap_setCell_at HCK0.out 0 _)
      have hz1 := HZ1.out
      refine ⟨W0.heap.size, fun _ => none, ⟨h1, HI0.out.solv.same hs0 (fun k hk => ?_) ?_ ?_, fun k e => ?_, fun k x e => (by cases e)⟩, .inr ⟨rfl, _, rfl, by omega⟩, hs0.mono fun k h => h.1⟩
      · have := hC.f k hk; have := hC.hbk; omega
      · have := hC.hsp; have := hC.hbk; omega
      · have := hC.hmb; have := hC.hbk; omega
      · cases e
        refine ⟨by omega, by omega, ?_⟩
        have := (MapI.made (W0.setCell ⟨bk, 0, none⟩ (.map (some W0.heap.size)))).mono (n' := 256) (by omega)
        rw [hze] at this
        exact this
    | some mk =>
      go_wp2_with fail
      go_meet
      exact ⟨mk, Dk, HI0.out, .inl rfl, SameOn.refl _ _⟩
  case rest =>
    obtain ⟨mk, Dk', hI1, hR1, hS1⟩ := hcut
    obtain ⟨m1', m2', hmap⟩ := hI1.seen mk rfl
    have hk1 := cell_of_block hI1.ck (j := 0) (v := .map (some mk)) rfl
    have hlook := hmap.look Try.underlying74 (Try.zeroValue81 _) HKI.out true
    have hrb : r ≠ some W.heap.size := fun e => by
      have := (HI.out.seen _ e).2.2.lt; omega
    have hn1' := (hS1.block W.heap.size (by have := HZ1.out; omega) ⟨by simp only at hbk; omega, hrb⟩).trans HN0.out
    have hzc : W.heap.size < wc.heap.size := (Array.getElem?_eq_some_iff.1 hn1').1
    have HN1 := Lib.hid hn1'
    have HI1 := Lib.hid hI1
    have HR1 := Lib.hid hR1
    have HS1 := Lib.hid ((SameOn.of_new HB0.out).trans hS1)
    clear hk0' hkf' hI1 hR1 hS1 hmap hn1'
    cases hd : Dk' n with
    | some x =>
      obtain ⟨-, -, va, vb, rfl, hb⟩ := HI1.out.keys n x hd
      obtain ⟨rfl, rfl⟩ := hb u u' HS.out HF.out
      rw [hd] at hlook
      clear hb hd
      have k60 := cell_of_block HN1.out (j := 0) (v := .int .i64 0) rfl
      have k61 := cell_of_block HN1.out (j := 1) (v := .int .i64 0) rfl
      have k6f0 := frozen_of_block HN1.out 0
      have k6f1 := frozen_of_block HN1.out 1
      go_wp2
      have hs5 : SameOn (fun k => k ≠ W.heap.size) wc (((wc.setCell ⟨W.heap.size, 0, none⟩ (.int .i64 (m0 u'))).setCell ⟨W.heap.size, 1, none⟩ (.int .i64 (m1 u'))).alloc (.cells #[.int .i64 (m0 u'), .int .i64 (m1 u')] 81)) :=
        (SameOn.set _ ⟨W.heap.size, 0, none⟩ _ (by simp)).trans ((SameOn.set _ ⟨W.heap.size, 1, none⟩ _ (by simp)).trans (.of_new ((Below.refl _ _).alloc (Nat.le_refl _) _)))
      have h5 : (((wc.setCell ⟨W.heap.size, 0, none⟩ (.int .i64 (m0 u'))).setCell ⟨W.heap.size, 1, none⟩ (.int .i64 (m1 u'))).alloc (.cells #[.int .i64 (m0 u'), .int .i64 (m1 u')] 81)).heap[W.heap.size]? = some (.cells #[.int .i64 (m0 u'), .int .i64 (m1 u')] 81 (0, 0)) :=
        (Below.heap_alloc _ _ _ (by simpa [World.setCell] using hzc)).trans (heap_setCell_at (heap_setCell_at HN1.out 0 (.int .i64 (m0 u'))) 1 (.int .i64 (m1 u')))
      generalize (((wc.setCell ⟨W.heap.size, 0, none⟩ (.int .i64 (m0 u'))).setCell ⟨W.heap.size, 1, none⟩ (.int .i64 (m1 u'))).alloc (.cells #[.int .i64 (m0 u'), .int .i64 (m1 u')] 81)) = WE at *
      have e0 := cell_of_block h5 (j := 0) (v := .int .i64 (m0 u')) rfl
      have e1 := cell_of_block h5 (j := 1) (v := .int .i64 (m1 u')) rfl
      refine bodyPost_ret (v := .agg #[.int .i64 (m0 u'), .int .i64 (m1 u')]) (by simp [results, Try.results50, go_sem, e0, e1]) rfl ?_
      have hmr : mk ≠ W.heap.size := HI1.out.ne_cells HN1.out
      have hcf := hC.hbk
      refine ⟨rfl, some mk, Dk', HI1.out.same hs5 (fun k hk => by have := hC.f k hk; omega) (by have := hC.hsp; omega) (by have := hC.hmb; omega) (by omega) (fun k e => by cases e; exact hmr), HR1.out, HS1.out.join hs5 (fun k hk _ => by omega)⟩
    | none =>
      rw [hd] at hlook
      have HD := Lib.hid hd
      clear hd
      go_wp2_with fail
      have hbt : Below wc.heap.size wc (wc.alloc (.cells #[.int .i64 0, .int .i64 0] 81)) := (Below.refl _ _).alloc (Nat.le_refl _) _
      have HBT := Lib.hid hbt
      refine (HT.out _ _ _ (HI1.out.later hbt) HR1.out (HS1.out.trans (.of_new hbt))).mono ?_
      rintro e W2 ⟨rfl, r2, Dk2, hI2, hR2, hS2⟩
      obtain rfl : r2 = some mk := by
        rcases hR2 with h | ⟨h, _⟩
        · exact h
        · cases h
      have hmr : mk ≠ W.heap.size := HI1.out.ne_cells HN1.out
      obtain ⟨-, -, hmap2⟩ := hI2.seen mk rfl
      have hk2 := cell_of_block hI2.ck (j := 0) (v := .map (some mk)) rfl
      have hn2 := (hS2.block W.heap.size (by simp; omega) ⟨by omega, fun e => hmr (by cases e; rfl)⟩).trans ((hbt.block _ hzc).trans HN1.out)
      have HI2 := Lib.hid hI2
      have HS2 := Lib.hid ((SameOn.of_new hbt).trans hS2)
      have HM2 := Lib.hid hmap2
      have HN2 := Lib.hid hn2
      have hz2 : W.heap.size < W2.heap.size := (Array.getElem?_eq_some_iff.1 hn2).1
      clear hI2 hS2 hR2 hmap2 hk1 hlook hbt hn2
      go_upto_region 7 with fail
      have hn9 := World.alloc_heap_new W2 (.cells #[.int .i64 (m0 u'), .int .i64 (m1 u')] 81)
      have hb9 : Below W2.heap.size W2 (W2.alloc (.cells #[.int .i64 (m0 u'), .int .i64 (m1 u')] 81)) := (Below.refl _ _).alloc (Nat.le_refl _) _
      have hz9 : (W2.alloc (.cells #[.int .i64 (m0 u'), .int .i64 (m1 u')] 81)).heap.size = W2.heap.size + 1 := by simp
      generalize (W2.alloc (.cells #[.int .i64 (m0 u'), .int .i64 (m1 u')] 81)) = W9 at *
      have k90 := cell_of_block hn9 (j := 0) (v := .int .i64 (m0 u')) rfl
      have k91 := cell_of_block hn9 (j := 1) (v := .int .i64 (m1 u')) rfl
      have hk9 := cell_kept hb9 hk2
      have HB9 := Lib.hid hb9
      have HZ9 := Lib.hid hz9
      clear hn9 hb9 hz9 hk2
      refine wp_mix 6 39 (fun ix _ u => match ix with | 0 => u = .pointer (some ⟨bk, 0, none⟩) | 1 => u = .pointer (some ⟨bk, 0, none⟩) | 2 => u = .pointer (some ⟨bk, 0, none⟩) | 3 => u = .map (some mk) | 4 => u = .int .i64 n | 5 => u = .agg #[.int .i64 (m0 u'), .int .i64 (m1 u')] | _ => True) (by kernel_rfl) rfl (by decide +kernel) (fun ix W W' u _ h => h) ?_ ?_
      · refine goes_cons rfl ?_ (goes_cons rfl ?_ (goes_cons rfl ?_ (goes_cons rfl ?_ (goes_cons rfl ?_ (goes_cons rfl ?_ (goes_nil))))))
        · intro ρ W hW hc hg hf hbase hdeps
          obtain ⟨hk, -⟩ := bcell hW
          have r0 := hbase 0 (by kernel_rfl)
          clear hbase hdeps
          have kk1 := cell_kept hW hk9
          have kk2 := cell_kept hW k90
          have kk3 := cell_kept hW k91
          go_simp
          exact ⟨Below.refl _ _, rfl⟩
        · intro ρ W hW hc hg hf hbase hdeps
          obtain ⟨hk, -⟩ := bcell hW
          have r32 : ρ (.tmp 32) = .pointer (some ⟨bk, 0, none⟩) := hdeps 0 _ 32 (by kernel_rfl) rfl rfl
          clear hbase hdeps
          have kk1 := cell_kept hW hk9
          have kk2 := cell_kept hW k90
          have kk3 := cell_kept hW k91
          go_simp
          exact ⟨Below.refl _ _, rfl⟩
        · intro ρ W hW hc hg hf hbase hdeps
          obtain ⟨hk, -⟩ := bcell hW
          have r33 : ρ (.tmp 33) = .pointer (some ⟨bk, 0, none⟩) := hdeps 1 _ 33 (by kernel_rfl) rfl rfl
          clear hbase hdeps
          have kk1 := cell_kept hW hk9
          have kk2 := cell_kept hW k90
          have kk3 := cell_kept hW k91
          go_simp
          exact ⟨Below.refl _ _, rfl⟩
        · intro ρ W hW hc hg hf hbase hdeps
          obtain ⟨hk, -⟩ := bcell hW
          have r34 : ρ (.tmp 34) = .pointer (some ⟨bk, 0, none⟩) := hdeps 2 _ 34 (by kernel_rfl) rfl rfl
          clear hbase hdeps
          have kk1 := cell_kept hW hk9
          have kk2 := cell_kept hW k90
          have kk3 := cell_kept hW k91
          go_simp
          exact ⟨Below.refl _ _, rfl⟩
        · intro ρ W hW hc hg hf hbase hdeps
          obtain ⟨hk, -⟩ := bcell hW
          have r1 := hbase 1 (by kernel_rfl)
          clear hbase hdeps
          have kk1 := cell_kept hW hk9
          have kk2 := cell_kept hW k90
          have kk3 := cell_kept hW k91
          go_simp
          exact ⟨Below.refl _ _, rfl⟩
        · intro ρ W hW hc hg hf hbase hdeps
          obtain ⟨hk, -⟩ := bcell hW
          have r9 := hbase 9 (by kernel_rfl)
          clear hbase hdeps
          have kk1 := cell_kept hW hk9
          have kk2 := cell_kept hW k90
          have kk3 := cell_kept hW k91
          go_simp
          exact ⟨Below.refl _ _, rfl⟩
      · intro us W10 hW10 hus
        have hu0 : us 0 = .pointer (some ⟨bk, 0, none⟩) := hus 0 (by decide)
        have hu1 : us 1 = .pointer (some ⟨bk, 0, none⟩) := hus 1 (by decide)
        have hu2 : us 2 = .pointer (some ⟨bk, 0, none⟩) := hus 2 (by decide)
        have hu3 : us 3 = .map (some mk) := hus 3 (by decide)
        have hu4 : us 4 = .int .i64 n := hus 4 (by decide)
        have hu5 : us 5 = .agg #[.int .i64 (m0 u'), .int .i64 (m1 u')] := hus 5 (by decide)
        clear hus
        simp only [List.drop_succ_cons, List.drop_zero, List.take_succ_cons, List.take_zero, fill, Act.put, List.setIfInBounds_toArray, List.set_cons_succ, List.set_cons_zero, hu0, hu1, hu2, hu3, hu4, hu5]
        clear hu0 hu1 hu2 hu3 hu4 hu5
        have hb10 := HB9.out.trans (hW10.mono (by have := HZ9.out; omega))
        have HB10 := Lib.hid hb10
        have HM10 := Lib.hid (HM2.out.below hb10)
        have ka0 := cell_kept hW10 k90
        have ka1 := cell_kept hW10 k91
        have hz10 : W2.heap.size < W10.heap.size := by have := hW10.size; have := HZ9.out; omega
        have hmlt := HM2.out.lt
        clear hW10 hb10 k90 k91 hk9
        go_wp2_with (at_mapUpdate; refine wp_put rfl (.tmp 35) (.tmp 36) (.tmp 37) 74 81 rfl Try.underlying74 mk 256 Dk2 rfl n rfl HKI.out (.agg #[.int .i64 (m0 u'), .int .i64 (m1 u')]) rfl HM10.out (by simp only [maxLen]; omega) ?_; intro w3 hm3 hg3; have hs3 : SameOn (fun k => k ≠ mk) W10 w3 := .of_grown hg3 (fun k e h => by cases e; exact h rfl); have kb0 := hs3.cell (p := ⟨W2.heap.size, 0, none⟩) (by show W2.heap.size ≠ mk; omega) ka0; have kb1 := hs3.cell (p := ⟨W2.heap.size, 1, none⟩) (by show W2.heap.size ≠ mk; omega) ka1; have hn3 := (hs3.block W.heap.size (by omega) (Ne.symm hmr)).trans ((HB10.out.block _ hz2).trans HN2.out); have k60 := cell_of_block hn3 (j := 0) (v := .int .i64 0) rfl; have k61 := cell_of_block hn3 (j := 1) (v := .int .i64 0) rfl; have k6f0 := frozen_of_block hn3 0; have k6f1 := frozen_of_block hn3 1; have HM3 := Lib.hid hm3; have HS3 := Lib.hid hs3; have HN3 := Lib.hid hn3; clear hm3 hg3 hs3 hn3 ka0 ka1)
        have hs5 : SameOn (fun k => k ≠ W.heap.size) w3 ((w3.setCell ⟨W.heap.size, 0, none⟩ (.int .i64 (m0 u'))).setCell ⟨W.heap.size, 1, none⟩ (.int .i64 (m1 u'))) :=
          (SameOn.set _ ⟨W.heap.size, 0, none⟩ _ (by simp)).trans (SameOn.set _ ⟨W.heap.size, 1, none⟩ _ (by simp))
        have h5 : ((w3.setCell ⟨W.heap.size, 0, none⟩ (.int .i64 (m0 u'))).setCell ⟨W.heap.size, 1, none⟩ (.int .i64 (m1 u'))).heap[W.heap.size]? = some (.cells #[.int .i64 (m0 u'), .int .i64 (m1 u')] 81 (0, 0)) :=
          heap_setCell_at (heap_setCell_at HN3.out 0 (.int .i64 (m0 u'))) 1 (.int .i64 (m1 u'))
        generalize ((w3.setCell ⟨W.heap.size, 0, none⟩ (.int .i64 (m0 u'))).setCell ⟨W.heap.size, 1, none⟩ (.int .i64 (m1 u'))) = WE at *
        have e0 := cell_of_block h5 (j := 0) (v := .int .i64 (m0 u')) rfl
        have e1 := cell_of_block h5 (j := 1) (v := .int .i64 (m1 u')) rfl
        refine bodyPost_ret (v := .agg #[.int .i64 (m0 u'), .int .i64 (m1 u')]) (by simp [results, Try.results50, go_sem, e0, e1]) rfl ?_
        have hcf := hC.hbk
        have hkeys : ∀ k x, (if k = n then some (Value.agg #[.int .i64 (m0 u'), .int .i64 (m1 u')]) else Dk2 k) = some x → 0 ≤ k ∧ k < 256 ∧ ∃ a b : Int, x = .agg #[.int .i64 a, .int .i64 b] ∧ ∀ t t', s k = some t → Full s t t' → a = m0 t' ∧ b = m1 t' := fun k x e => by
          by_cases c : k = n
          · subst c
            rw [if_pos rfl] at e
            cases e
            exact ⟨hn0, hn1, _, _, rfl, fun t t' h1 h2 => by rw [HS.out] at h1; cases h1; rw [h2.det HF.out]; exact ⟨rfl, rfl⟩⟩
          · rw [if_neg c] at e
            exact HI2.out.keys k x e
        have hI2 := HI2.out
        obtain ⟨m1', m2', -⟩ := hI2.seen mk rfl
        have hsA : SameOn (fun k => k ≠ mk) W2 w3 := (SameOn.of_new HB10.out).trans HS3.out
        have hsB : SameOn (fun k => k ≠ mk ∧ k ≠ W.heap.size) W2 WE := (hsA.mono fun k h => h.1).trans (hs5.mono fun k h => h.2)
        refine ⟨rfl, some mk, fun j => if j = n then some (.agg #[.int .i64 (m0 u'), .int .i64 (m1 u')]) else Dk2 j, ⟨(hsB.block bk (Array.getElem?_eq_some_iff.1 hI2.ck).1 ⟨Ne.symm m2', by omega⟩).trans hI2.ck, hI2.solv.same hsB (fun k hk => ⟨by have := hC.f k hk; omega, by have := hC.f k hk; omega⟩) ⟨by have := hC.hsp; omega, by have := hC.hsp; omega⟩ ⟨by have := hC.hmb; omega, by have := hC.hmb; omega⟩, fun k e => ?_, hkeys⟩, HR1.out, ?_⟩
        · cases e
          refine ⟨m1', m2', MapI.cap (n := 257) ?_ (fun k x e => ⟨(hkeys k x e).1, (hkeys k x e).2.1⟩)⟩
          exact HM3.out.later (hs5.block mk HM3.out.lt hmr)
        · refine (HS1.out.join HS2.out (fun k hk h => ⟨h.1, HR1.out.ne hk h.2⟩)).join hsB (fun k hk h => ⟨fun e => ?_, by omega⟩)
          subst e
          exact HR1.out.ne hk h.2 rfl
end Go.Proofs.Ytokhnlhffnidmaa
