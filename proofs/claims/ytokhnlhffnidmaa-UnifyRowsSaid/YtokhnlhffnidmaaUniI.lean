/- The solver's measure. -/
import Derived.Test.YtokhnlhffnidmaaUniH
import Derived.Test.YtokhnlhffnidmaaMixS
namespace Go.Proofs.Ytokhnlhffnidmaa
open Go.RowKit Go.Shelf Elen

set_option maxRecDepth 100000 in
theorem mtell_calls (F : Nat → Prop) (sp mb nn : Nat) (s : Sub) (D : Int → Option Value) (bk n0 : Nat) (hC : MeasC F sp mb bk n0) (r : Option Nat) (Dk : Int → Option Value) (W : World) (hI : MeasI F sp mb nn s D bk n0 r Dk W) (hz : n0 ≤ W.heap.size) (t t' : T) (x y : Value) (b3 b4 b8 : Nat)
    (h3 : W.cell? ⟨b3, 0, none⟩ = some (.pointer (some ⟨sp, 0, none⟩))) (h4 : W.cell? ⟨b4, 0, none⟩ = some (.pointer (some ⟨bk, 0, none⟩))) (hu0 : W.cell? ⟨b8, 0, none⟩ = some x) (hu1 : W.cell? ⟨b8, 1, none⟩ = some y) (ht : IsF F W t x y)
    (hm : ∀ W1, Below W.heap.size W W1 → Calls Try.prog 34 #[.pointer (some ⟨sp, 0, none⟩), .pointer (some ⟨bk, 0, none⟩), .agg #[x, y]] W1 (MeasPost F sp mb nn s D bk n0 r W1 t')) :
    Calls Try.prog 51 #[.pointer (some ⟨b3, 0, none⟩), .pointer (some ⟨b4, 0, none⟩), .pointer (some ⟨b8, 0, none⟩)] W (MeasPost F sp mb nn s D bk n0 r W t') := by
  obtain ⟨rfl, hi, hs⟩ := ht.parts
  obtain ⟨A, c, rfl, -, -⟩ := hs.shapeT
  have hrk : ∀ k, r = some k → k < W.heap.size := fun k e => (hI.seen k e).2.2.lt
  have hbk : bk < W.heap.size := World.block_lt_of_cell? W _ (cell_of_block hI.ck (j := 0) (v := .map r) rfl)
  have hb0 : Below W.heap.size W (W.alloc (.cells #[.int .i64 0, .int .i64 0] 81)) := (Below.refl _ _).alloc (Nat.le_refl _) _
  have hn0 := World.alloc_heap_new W (.cells #[.int .i64 0, .int .i64 0] 81)
  have HM := Lib.hid (hm _ hb0)
  have HB0 := Lib.hid hb0
  have HN0 := Lib.hid hn0
  have HRK := Lib.hid hrk
  have h3' := cell_old (.cells #[.int .i64 0, .int .i64 0] 81) h3
  have h4' := cell_old (.cells #[.int .i64 0, .int .i64 0] 81) h4
  have hu0' := cell_old (.cells #[.int .i64 0, .int .i64 0] 81) hu0
  have hu1' := cell_old (.cells #[.int .i64 0, .int .i64 0] 81) hu1
  clear hm hI ht hs hb0 hn0 hrk h3 h4 hu0 hu1
  go_enter Try.func51, Try.ntmps51
  go_wp2_with fail
  refine HM.out.mono ?_
  rintro e w1 ⟨rfl, r2, Dk2, hI2, hR2, hS2⟩
  have hn1 := (hS2.block W.heap.size (by simp) ⟨by omega, fun e => by have := HRK.out _ e; omega⟩).trans HN0.out
  have hz1 : W.heap.size < w1.heap.size := (Array.getElem?_eq_some_iff.1 hn1).1
  have k60 := cell_of_block hn1 (j := 0) (v := .int .i64 0) rfl
  have k61 := cell_of_block hn1 (j := 1) (v := .int .i64 0) rfl
  have k6f0 := frozen_of_block hn1 0
  have k6f1 := frozen_of_block hn1 1
  have HI2 := Lib.hid hI2
  have HR2 := Lib.hid hR2
  have HS2 := Lib.hid hS2
  have HN1 := Lib.hid hn1
  clear hI2 hR2 hS2 hn1 h3' h4' hu0' hu1'
  go_wp2
  have hs5 : SameOn (fun k => k ≠ W.heap.size) w1 ((w1.setCell ⟨W.heap.size, 0, none⟩ (.int .i64 (m0 t'))).setCell ⟨W.heap.size, 1, none⟩ (.int .i64 (m1 t'))) :=
    (SameOn.set _ ⟨W.heap.size, 0, none⟩ _ (by simp)).trans (SameOn.set _ ⟨W.heap.size, 1, none⟩ _ (by simp))
  have h5 : ((w1.setCell ⟨W.heap.size, 0, none⟩ (.int .i64 (m0 t'))).setCell ⟨W.heap.size, 1, none⟩ (.int .i64 (m1 t'))).heap[W.heap.size]? = some (.cells #[.int .i64 (m0 t'), .int .i64 (m1 t')] 81 (0, 0)) :=
    heap_setCell_at (heap_setCell_at HN1.out 0 (.int .i64 (m0 t'))) 1 (.int .i64 (m1 t'))
  generalize ((w1.setCell ⟨W.heap.size, 0, none⟩ (.int .i64 (m0 t'))).setCell ⟨W.heap.size, 1, none⟩ (.int .i64 (m1 t'))) = WE at *
  have e0 := cell_of_block h5 (j := 0) (v := .int .i64 (m0 t')) rfl
  have e1 := cell_of_block h5 (j := 1) (v := .int .i64 (m1 t')) rfl
  refine bodyPost_ret (v := .agg #[.int .i64 (m0 t'), .int .i64 (m1 t')]) (by simp [results, Try.results51, go_sem, e0, e1]) rfl ?_
  have hr2 : ∀ k, r2 = some k → k ≠ W.heap.size := fun k e => by
    subst e
    exact HI2.out.ne_cells HN1.out
  have hcb := hC.hbk
  exact ⟨rfl, r2, Dk2, HI2.out.same hs5 (fun k hk => by have := hC.f k hk; omega) (by have := hC.hsp; omega) (by have := hC.hmb; omega) (by omega) hr2, HR2.out.weak HB0.out.size, ((SameOn.of_new HB0.out).trans HS2.out).join hs5 (fun k hk _ => by omega)⟩

/-- what the measure holds ahead of its end, the arguments seen -/
def o0 (l : List T) : Int := ((min (T.sizeL l + 1) 401 : Nat) : Int)
def o1 (l : List T) : Int := ((min (T.depthL l) 41 : Nat) : Int)
theorem T.depthL_append : ∀ (l k : List T), T.depthL (l ++ k) = max (T.depthL l) (T.depthL k)
  | [], k => by simp [T.depthL]
  | a :: l, k => by simp only [List.cons_append, T.depthL, T.depthL_append l k]; omega
theorem o0_snoc (l : List T) (a : T) : o0 (l ++ [a]) = if 401 < o0 l + m0 a then 401 else o0 l + m0 a := by
  unfold o0 m0
  rw [T.sizeL_append]
  simp only [T.sizeL]
  split <;> omega
theorem o1_snoc (l : List T) (a : T) : o1 (l ++ [a]) = if o1 l < m1 a then m1 a else o1 l := by
  unfold o1 m1
  rw [T.depthL_append]
  simp only [T.depthL]
  split <;> omega
theorem o0_le (l : List T) : 0 ≤ o0 l ∧ o0 l ≤ 401 := by unfold o0; omega
theorem o1_le (l : List T) : 0 ≤ o1 l ∧ o1 l ≤ 41 := by unfold o1; omega
theorem m0_le (a : T) : 0 ≤ m0 a ∧ m0 a ≤ 401 := by unfold m0; omega
theorem m1_le (a : T) : 0 ≤ m1 a ∧ m1 a ≤ 41 := by unfold m1; omega
theorem o0_end (h : Int) (l : List T) : m0 (.mk h l) = o0 l := by unfold o0 m0; simp only [T.size]
theorem o1_end (h : Int) (l : List T) : m1 (.mk h l) = if 41 < o1 l + 1 then 41 else o1 l + 1 := by
  unfold o1 m1; simp only [T.depth]; split <;> omega

set_option maxRecDepth 100000 in
set_option maxHeartbeats 1000000 in
theorem measure_calls (F : Nat → Prop) (sp mb nn : Nat) (s : Sub) (hlow : ∀ k u, s k = some u → 0 ≤ k ∧ k < 256) (D : Int → Option Value) (bk n0 : Nat) (hC : MeasC F sp mb bk n0) (t t' : T) (hf : Full s t t') :
    ∀ (r : Option Nat) (Dk : Int → Option Value) (W : World) (x y : Value), MeasI F sp mb nn s D bk n0 r Dk W → n0 ≤ W.heap.size → IsF F W t x y →
    Calls Try.prog 34 #[.pointer (some ⟨sp, 0, none⟩), .pointer (some ⟨bk, 0, none⟩), .agg #[x, y]] W (MeasPost F sp mb nn s D bk n0 r W t') := by
  induction hf with
  | @free h ar h0 hs =>
    intro r Dk W x y hI hz ht
    obtain ⟨rfl, hi, hsl⟩ := ht.parts
    obtain ⟨A, c, rfl, -, -⟩ := hsl.shapeT
    simp only [T.head, T.args] at *
    have hbA : Below W.heap.size W ((((W.alloc (.cells #[.pointer (some ⟨sp, 0, none⟩)] 43)).alloc (.cells #[.pointer (some ⟨bk, 0, none⟩)] 83)).alloc (.cells #[.int .i64 h, .slice A ar.length c] 24)).alloc (.cells #[.int .i64 0, .int .i64 0] 81)) := allocs_below [.cells #[.pointer (some ⟨sp, 0, none⟩)] 43, .cells #[.pointer (some ⟨bk, 0, none⟩)] 83, .cells #[.int .i64 h, .slice A ar.length c] 24, .cells #[.int .i64 0, .int .i64 0] 81] _ (Nat.le_refl _)
    have gA : ∀ i o, [Obj.cells #[.pointer (some ⟨sp, 0, none⟩)] 43, .cells #[.pointer (some ⟨bk, 0, none⟩)] 83, .cells #[.int .i64 h, .slice A ar.length c] 24, .cells #[.int .i64 0, .int .i64 0] 81][i]? = some o → ((((W.alloc (.cells #[.pointer (some ⟨sp, 0, none⟩)] 43)).alloc (.cells #[.pointer (some ⟨bk, 0, none⟩)] 83)).alloc (.cells #[.int .i64 h, .slice A ar.length c] 24)).alloc (.cells #[.int .i64 0, .int .i64 0] 81)).heap[W.heap.size + i]? = some o := fun i o h => by
      obtain ⟨hi, e⟩ := List.getElem?_eq_some_iff.1 h
      have := allocs_get _ W i hi
      rw [e] at this
      exact this
    have hzA : ((((W.alloc (.cells #[.pointer (some ⟨sp, 0, none⟩)] 43)).alloc (.cells #[.pointer (some ⟨bk, 0, none⟩)] 83)).alloc (.cells #[.int .i64 h, .slice A ar.length c] 24)).alloc (.cells #[.int .i64 0, .int .i64 0] 81)).heap.size = W.heap.size + 1 + 1 + 1 + 1 := by simp
    have hsp := hI.solv.ptr
    have hki : I64 (-1 - h) := by unfold I64 at *; omega
    have hh1 : -9223372036854775808 ≤ h := hi.1
    have hlk : ∀ W2 : World, Below W.heap.size W W2 → (Instr.lookup 44 (.map (some mb)) (.int .i64 (-1 - h)) true).run Try.prog W2 = .ok (.tuple #[.agg #[.int .i64 0, .slice none 0 0], .bool false]) W2 := fun W2 hW => by
      have := (hI.solv.map.below hW).look Try.underlying44 (Try.zeroValue24 _) hki true
      rw [hI.solv.none_ _ hs] at this
      exact this
    have HI := Lib.hid hI
    have HLK := Lib.hid hlk
    have HBA := Lib.hid hbA
    have HGA := Lib.hid gA
    have HZA := Lib.hid hzA
    clear hI ht hsl hs hlk hki hi gA hbA hzA
    go_enter Try.func34, Try.ntmps34
    go_upto_region 3 with fail
    have hbA := HBA.out
    have gA := HGA.out
    have hzA := HZA.out
    clear HBA HGA HZA
    generalize ((((W.alloc (.cells #[.pointer (some ⟨sp, 0, none⟩)] 43)).alloc (.cells #[.pointer (some ⟨bk, 0, none⟩)] 83)).alloc (.cells #[.int .i64 h, .slice A ar.length c] 24)).alloc (.cells #[.int .i64 0, .int .i64 0] 81)) = W4 at *
    have g3 := gA 0 _ rfl
    have g4 := gA 1 _ rfl
    have g5 := gA 2 _ rfl
    have g6 : W4.heap[W.heap.size + 1 + 1 + 1]? = some (.cells #[.int .i64 0, .int .i64 0] 81) := gA 3 _ rfl
    have k3 : W4.cell? ⟨W.heap.size, 0, none⟩ = some (.pointer (some ⟨sp, 0, none⟩)) := cell_of_block g3 (j := 0) rfl
    have k4 : W4.cell? ⟨W.heap.size + 1, 0, none⟩ = some (.pointer (some ⟨bk, 0, none⟩)) := cell_of_block g4 (j := 0) rfl
    have k50 : W4.cell? ⟨W.heap.size + 1 + 1, 0, none⟩ = some (.int .i64 h) := cell_of_block g5 (j := 0) rfl
    have k51 : W4.cell? ⟨W.heap.size + 1 + 1, 1, none⟩ = some (.slice A ar.length c) := cell_of_block g5 (j := 1) rfl
    have k60 : W4.cell? ⟨W.heap.size + 1 + 1 + 1, 0, none⟩ = some (.int .i64 0) := cell_of_block g6 (j := 0) rfl
    have k61 : W4.cell? ⟨W.heap.size + 1 + 1 + 1, 1, none⟩ = some (.int .i64 0) := cell_of_block g6 (j := 1) rfl
    have k6f0 : W4.frozen? ⟨W.heap.size + 1 + 1 + 1, 0, none⟩ = false := frozen_of_block g6 0
    have k6f1 : W4.frozen? ⟨W.heap.size + 1 + 1 + 1, 1, none⟩ = false := frozen_of_block g6 1
    have hz6 : W.heap.size + 1 + 1 + 1 < W4.heap.size := by omega
    have hsp4 := cell_kept hbA hsp
    have hlook := HLK.out W4 hbA
    have HBA := Lib.hid hbA
    have HZA := Lib.hid hzA
    have HG6 := Lib.hid g6
    clear g3 g4 g5 gA hbA hzA hsp HLK
    go_upto_region 5 with fail
    have hb5 : Below W4.heap.size W4 (W4.alloc (.cells #[.int .i64 0, .slice none 0 0] 24)) := (Below.refl _ _).alloc (Nat.le_refl _) _
    generalize (W4.alloc (.cells #[.int .i64 0, .slice none 0 0] 24)) = W5 at *
    have g65 := (hb5.block _ hz6).trans g6
    have HI5 := Lib.hid ((HI.out.later HBA.out).later hb5)
    have HS5 := Lib.hid ((SameOn.of_new (S := fun k => k ≠ bk ∧ r ≠ some k) HBA.out).trans (.of_new hb5))
    clear k3 k4 k50 k51 k60 k61 k6f0 k6f1 hsp4 hlook g6 hb5
    have k60 := cell_of_block g65 (j := 0) (v := .int .i64 0) rfl
    have k61 := cell_of_block g65 (j := 1) (v := .int .i64 0) rfl
    have k6f0 := frozen_of_block g65 0
    have k6f1 := frozen_of_block g65 1
    go_wp2
    have hs5 : SameOn (fun k => k ≠ W.heap.size + 1 + 1 + 1) W5 ((W5.setCell ⟨W.heap.size + 1 + 1 + 1, 0, none⟩ (.int .i64 1)).setCell ⟨W.heap.size + 1 + 1 + 1, 1, none⟩ (.int .i64 1)) :=
      (SameOn.set _ ⟨W.heap.size + 1 + 1 + 1, 0, none⟩ _ (by simp)).trans (SameOn.set _ ⟨W.heap.size + 1 + 1 + 1, 1, none⟩ _ (by simp))
    have h5 : ((W5.setCell ⟨W.heap.size + 1 + 1 + 1, 0, none⟩ (.int .i64 1)).setCell ⟨W.heap.size + 1 + 1 + 1, 1, none⟩ (.int .i64 1)).heap[W.heap.size + 1 + 1 + 1]? = some (.cells #[(.int .i64 1), (.int .i64 1)] 81 (0, 0)) :=
      heap_setCell_at (heap_setCell_at g65 0 (.int .i64 1)) 1 (.int .i64 1)
    generalize ((W5.setCell ⟨W.heap.size + 1 + 1 + 1, 0, none⟩ (.int .i64 1)).setCell ⟨W.heap.size + 1 + 1 + 1, 1, none⟩ (.int .i64 1)) = WE at *
    have e0 := cell_of_block h5 (j := 0) (v := (.int .i64 1)) rfl
    have e1 := cell_of_block h5 (j := 1) (v := (.int .i64 1)) rfl
    refine bodyPost_ret (v := .agg #[(.int .i64 1), (.int .i64 1)]) (by simp [results, Try.results34, go_sem, e0, e1]) rfl ?_
    have hrk : ∀ k, r = some k → k ≠ W.heap.size + 1 + 1 + 1 := fun k e => by have := (HI.out.seen k e).2.2.lt; omega
    have hbk := World.block_lt_of_cell? W _ (cell_of_block HI.out.ck (j := 0) (v := .map r) rfl)
    refine ⟨by simp [m0, m1, T.size, T.sizeL, T.depth, T.depthL], r, Dk, HI5.out.same hs5 (fun k hk => by have := hC.f k hk; omega) (by have := hC.hsp; omega) (by have := hC.hmb; omega) (by simp only at hbk; omega) hrk, .inl rfl, HS5.out.join hs5 (fun k hk _ => by omega)⟩
  | @bound h ar u t' h0 hs hf ih =>
    intro r Dk W x y hI hz ht
    obtain ⟨rfl, hi, hsl⟩ := ht.parts
    obtain ⟨A, c, rfl, -, -⟩ := hsl.shapeT
    simp only [T.head, T.args] at *
    obtain ⟨xu, yu, hDu, hxu⟩ := hI.solv.some_ _ _ hs
    obtain ⟨rfl, hiu, hsu⟩ := hxu.parts
    obtain ⟨Au, cu, rfl, -, -⟩ := hsu.shapeT
    have hbA : Below W.heap.size W ((((W.alloc (.cells #[.pointer (some ⟨sp, 0, none⟩)] 43)).alloc (.cells #[.pointer (some ⟨bk, 0, none⟩)] 83)).alloc (.cells #[.int .i64 h, .slice A ar.length c] 24)).alloc (.cells #[.int .i64 0, .int .i64 0] 81)) := allocs_below [.cells #[.pointer (some ⟨sp, 0, none⟩)] 43, .cells #[.pointer (some ⟨bk, 0, none⟩)] 83, .cells #[.int .i64 h, .slice A ar.length c] 24, .cells #[.int .i64 0, .int .i64 0] 81] _ (Nat.le_refl _)
    have gA : ∀ i o, [Obj.cells #[.pointer (some ⟨sp, 0, none⟩)] 43, .cells #[.pointer (some ⟨bk, 0, none⟩)] 83, .cells #[.int .i64 h, .slice A ar.length c] 24, .cells #[.int .i64 0, .int .i64 0] 81][i]? = some o → ((((W.alloc (.cells #[.pointer (some ⟨sp, 0, none⟩)] 43)).alloc (.cells #[.pointer (some ⟨bk, 0, none⟩)] 83)).alloc (.cells #[.int .i64 h, .slice A ar.length c] 24)).alloc (.cells #[.int .i64 0, .int .i64 0] 81)).heap[W.heap.size + i]? = some o := fun i o h => by
      obtain ⟨hi, e⟩ := List.getElem?_eq_some_iff.1 h
      have := allocs_get _ W i hi
      rw [e] at this
      exact this
    have hzA : ((((W.alloc (.cells #[.pointer (some ⟨sp, 0, none⟩)] 43)).alloc (.cells #[.pointer (some ⟨bk, 0, none⟩)] 83)).alloc (.cells #[.int .i64 h, .slice A ar.length c] 24)).alloc (.cells #[.int .i64 0, .int .i64 0] 81)).heap.size = W.heap.size + 1 + 1 + 1 + 1 := by simp
    have hsp := hI.solv.ptr
    have hki : I64 (-1 - h) := by unfold I64 at *; omega
    have hh1 : -9223372036854775808 ≤ h := hi.1
    have hlk : ∀ W2 : World, Below W.heap.size W W2 → (Instr.lookup 44 (.map (some mb)) (.int .i64 (-1 - h)) true).run Try.prog W2 = .ok (.tuple #[.agg #[.int .i64 u.head, .slice Au u.args.length cu], .bool true]) W2 := fun W2 hW => by
      have := (hI.solv.map.below hW).look Try.underlying44 (Try.zeroValue24 _) hki true
      rw [hDu] at this
      exact this
    have HI := Lib.hid hI
    have HLK := Lib.hid hlk
    have HBA := Lib.hid hbA
    have HGA := Lib.hid gA
    have HZA := Lib.hid hzA
    have HXU := Lib.hid hxu
    have HIH := Lib.hid ih
    have HS := Lib.hid hs
    have HF := Lib.hid hf
    have HLW := Lib.hid hlow
    clear hI ht hsl hs hlk hki hi gA hbA hzA hxu hsu hDu ih hf hlow
    go_enter Try.func34, Try.ntmps34
    go_upto_region 3 with fail
    have hbA := HBA.out
    have gA := HGA.out
    have hzA := HZA.out
    clear HBA HGA HZA
    generalize ((((W.alloc (.cells #[.pointer (some ⟨sp, 0, none⟩)] 43)).alloc (.cells #[.pointer (some ⟨bk, 0, none⟩)] 83)).alloc (.cells #[.int .i64 h, .slice A ar.length c] 24)).alloc (.cells #[.int .i64 0, .int .i64 0] 81)) = W4 at *
    have g3 := gA 0 _ rfl
    have g4 := gA 1 _ rfl
    have g5 := gA 2 _ rfl
    have g6 : W4.heap[W.heap.size + 1 + 1 + 1]? = some (.cells #[.int .i64 0, .int .i64 0] 81) := gA 3 _ rfl
    have k3 : W4.cell? ⟨W.heap.size, 0, none⟩ = some (.pointer (some ⟨sp, 0, none⟩)) := cell_of_block g3 (j := 0) rfl
    have k4 : W4.cell? ⟨W.heap.size + 1, 0, none⟩ = some (.pointer (some ⟨bk, 0, none⟩)) := cell_of_block g4 (j := 0) rfl
    have k50 : W4.cell? ⟨W.heap.size + 1 + 1, 0, none⟩ = some (.int .i64 h) := cell_of_block g5 (j := 0) rfl
    have k51 : W4.cell? ⟨W.heap.size + 1 + 1, 1, none⟩ = some (.slice A ar.length c) := cell_of_block g5 (j := 1) rfl
    have k60 : W4.cell? ⟨W.heap.size + 1 + 1 + 1, 0, none⟩ = some (.int .i64 0) := cell_of_block g6 (j := 0) rfl
    have k61 : W4.cell? ⟨W.heap.size + 1 + 1 + 1, 1, none⟩ = some (.int .i64 0) := cell_of_block g6 (j := 1) rfl
    have k6f0 : W4.frozen? ⟨W.heap.size + 1 + 1 + 1, 0, none⟩ = false := frozen_of_block g6 0
    have k6f1 : W4.frozen? ⟨W.heap.size + 1 + 1 + 1, 1, none⟩ = false := frozen_of_block g6 1
    have hz6 : W.heap.size + 1 + 1 + 1 < W4.heap.size := by omega
    have hsp4 := cell_kept hbA hsp
    have hlook := HLK.out W4 hbA
    have HBA := Lib.hid hbA
    have HZA := Lib.hid hzA
    have HG3 := Lib.hid g3
    have HG4 := Lib.hid g4
    clear g3 g4 g5 gA hbA hzA hsp HLK
    go_upto_region 6 with fail
    have hb5 : Below W4.heap.size W4 (W4.alloc (.cells #[.int .i64 u.head, .slice Au u.args.length cu] 24)) := (Below.refl _ _).alloc (Nat.le_refl _) _
    have g8 := World.alloc_heap_new W4 (.cells #[.int .i64 u.head, .slice Au u.args.length cu] 24)
    have hz5 : (W4.alloc (.cells #[.int .i64 u.head, .slice Au u.args.length cu] 24)).heap.size = W4.heap.size + 1 := by simp
    generalize (W4.alloc (.cells #[.int .i64 u.head, .slice Au u.args.length cu] 24)) = W5 at *
    have g63 := (hb5.block _ (by omega)).trans HG3.out
    have g64 := (hb5.block _ (by omega)).trans HG4.out
    have g65 := (hb5.block _ hz6).trans g6
    have hbW5 := HBA.out.trans (hb5.mono (by have := HZA.out; omega))
    have hI5 := HI.out.later hbW5
    have hbk := World.block_lt_of_cell? W _ (cell_of_block HI.out.ck (j := 0) (v := .map r) rfl)
    have hrk : ∀ k, r = some k → n0 ≤ k ∧ k < W.heap.size := fun k e => ⟨(HI.out.seen k e).1, (HI.out.seen k e).2.2.lt⟩
    have hzz := HZA.out
    have hof := mof_calls F sp mb nn s D bk n0 hC r Dk W5 hI5 (by omega) (-1 - h) (HLW.out _ _ HS.out).1 (HLW.out _ _ HS.out).2 u t' HS.out HF.out 51 #[.pointer (some ⟨W.heap.size, 0, none⟩), .pointer (some ⟨W.heap.size + 1, 0, none⟩), .pointer (some ⟨W4.heap.size, 0, none⟩)] (enters_of Try.func51 (by kernel_rfl) rfl) (fun r1 Dk1 W1 hI1 hR1 hS1 => by
      simp only at hbk
      have hx1 : IsF F W1 u (.int .i64 u.head) (.slice Au u.args.length cu) := (HXU.out.later hbW5).same hS1 (fun k hk => ⟨by have := hC.f k hk; have := hC.hbk; omega, fun e => by have := hC.f k hk; have := hrk _ e; omega⟩)
      have hs : ∀ b, W.heap.size ≤ b → b ≠ bk ∧ r ≠ some b := fun b hb => ⟨by omega, fun e => by have := hrk _ e; omega⟩
      refine mtell_calls F sp mb nn s D bk n0 hC r1 Dk1 W1 hI1 (by have := hS1.size; omega) u t' _ _ W.heap.size (W.heap.size + 1) W4.heap.size
        (hS1.cell (p := ⟨W.heap.size, 0, none⟩) (hs _ (by simp)) (cell_of_block g63 (j := 0) rfl))
        (hS1.cell (p := ⟨W.heap.size + 1, 0, none⟩) (hs _ (by simp)) (cell_of_block g64 (j := 0) rfl))
        (hS1.cell (p := ⟨W4.heap.size, 0, none⟩) (hs _ (by simp only; omega)) (cell_of_block g8 (j := 0) rfl))
        (hS1.cell (p := ⟨W4.heap.size, 1, none⟩) (hs _ (by simp only; omega)) (cell_of_block g8 (j := 1) rfl)) hx1 (fun W2 hB2 => ?_)
      exact HIH.out r1 Dk1 W2 _ _ (hI1.later hB2) (by have := hS1.size; have := hB2.size; omega) (hx1.later hB2))
    have HOF := Lib.hid hof
    have HB5 := Lib.hid hb5
    have HBW5 := Lib.hid hbW5
    have HZ5 := Lib.hid hz5
    have k4' := cell_of_block g64 (j := 0) (v := .pointer (some ⟨bk, 0, none⟩)) rfl
    have HG65 := Lib.hid g65
    have HBK := Lib.hid hbk
    have HRK := Lib.hid hrk
    clear k3 k4 k50 k51 k60 k61 k6f0 k6f1 hsp4 hlook g6 hb5 hz5 hbW5 hI5 hbk hrk hof g8 g63 g64 g65 hzz
    go_wp2_with fail
    refine HOF.out.mono ?_
    rintro e w3 ⟨rfl, r3, Dk3, hI3, hR3, hS3⟩
    have hsW := (SameOn.of_new HBW5.out).trans hS3
    have hbk : bk < W.heap.size := HBK.out
    have hz5 := HZ5.out
    have hzA := HZA.out
    have g65 := (hS3.block (W.heap.size + 1 + 1 + 1) (by omega) ⟨by omega, fun e => by have := HRK.out _ e; omega⟩).trans HG65.out
    have HI3 := Lib.hid hI3
    have HR3 := Lib.hid hR3
    have HSW := Lib.hid hsW
    clear hI3 hR3 hS3 hsW k4'
    have k60 := cell_of_block g65 (j := 0) (v := .int .i64 0) rfl
    have k61 := cell_of_block g65 (j := 1) (v := .int .i64 0) rfl
    have k6f0 := frozen_of_block g65 0
    have k6f1 := frozen_of_block g65 1
    go_wp2
    have hs5 : SameOn (fun k => k ≠ W.heap.size + 1 + 1 + 1) w3 ((w3.setCell ⟨W.heap.size + 1 + 1 + 1, 0, none⟩ (.int .i64 (m0 t'))).setCell ⟨W.heap.size + 1 + 1 + 1, 1, none⟩ (.int .i64 (m1 t'))) :=
      (SameOn.set _ ⟨W.heap.size + 1 + 1 + 1, 0, none⟩ _ (by simp)).trans (SameOn.set _ ⟨W.heap.size + 1 + 1 + 1, 1, none⟩ _ (by simp))
    have h5 : ((w3.setCell ⟨W.heap.size + 1 + 1 + 1, 0, none⟩ (.int .i64 (m0 t'))).setCell ⟨W.heap.size + 1 + 1 + 1, 1, none⟩ (.int .i64 (m1 t'))).heap[W.heap.size + 1 + 1 + 1]? = some (.cells #[(.int .i64 (m0 t')), (.int .i64 (m1 t'))] 81 (0, 0)) :=
      heap_setCell_at (heap_setCell_at g65 0 (.int .i64 (m0 t'))) 1 (.int .i64 (m1 t'))
    generalize ((w3.setCell ⟨W.heap.size + 1 + 1 + 1, 0, none⟩ (.int .i64 (m0 t'))).setCell ⟨W.heap.size + 1 + 1 + 1, 1, none⟩ (.int .i64 (m1 t'))) = WE at *
    have e0 := cell_of_block h5 (j := 0) (v := (.int .i64 (m0 t'))) rfl
    have e1 := cell_of_block h5 (j := 1) (v := (.int .i64 (m1 t'))) rfl
    refine bodyPost_ret (v := .agg #[(.int .i64 (m0 t')), (.int .i64 (m1 t'))]) (by simp [results, Try.results34, go_sem, e0, e1]) rfl ?_
    have hrk : ∀ k, r3 = some k → k ≠ W.heap.size + 1 + 1 + 1 := fun k e => by
      subst e
      exact HI3.out.ne_cells g65
    exact ⟨rfl, r3, Dk3, HI3.out.same hs5 (fun k hk => by have := hC.f k hk; omega) (by have := hC.hsp; omega) (by have := hC.hmb; omega) (by omega) hrk, HR3.out.weak HBW5.out.size, HSW.out.join hs5 (fun k hk _ => by omega)⟩
  | @node h ar ar' h0 hl hf ih =>
    intro r Dk W x y hI hz ht
    obtain ⟨rfl, hi, hsl⟩ := ht.parts
    obtain ⟨A, c, rfl, -, -⟩ := hsl.shapeT
    simp only [T.head, T.args] at *
    have hbA : Below W.heap.size W ((((W.alloc (.cells #[.pointer (some ⟨sp, 0, none⟩)] 43)).alloc (.cells #[.pointer (some ⟨bk, 0, none⟩)] 83)).alloc (.cells #[.int .i64 h, .slice A ar.length c] 24)).alloc (.cells #[.int .i64 0, .int .i64 0] 81)) := allocs_below [.cells #[.pointer (some ⟨sp, 0, none⟩)] 43, .cells #[.pointer (some ⟨bk, 0, none⟩)] 83, .cells #[.int .i64 h, .slice A ar.length c] 24, .cells #[.int .i64 0, .int .i64 0] 81] _ (Nat.le_refl _)
    have gA : ∀ i o, [Obj.cells #[.pointer (some ⟨sp, 0, none⟩)] 43, .cells #[.pointer (some ⟨bk, 0, none⟩)] 83, .cells #[.int .i64 h, .slice A ar.length c] 24, .cells #[.int .i64 0, .int .i64 0] 81][i]? = some o → ((((W.alloc (.cells #[.pointer (some ⟨sp, 0, none⟩)] 43)).alloc (.cells #[.pointer (some ⟨bk, 0, none⟩)] 83)).alloc (.cells #[.int .i64 h, .slice A ar.length c] 24)).alloc (.cells #[.int .i64 0, .int .i64 0] 81)).heap[W.heap.size + i]? = some o := fun i o h => by
      obtain ⟨hi, e⟩ := List.getElem?_eq_some_iff.1 h
      have := allocs_get _ W i hi
      rw [e] at this
      exact this
    have hzA : ((((W.alloc (.cells #[.pointer (some ⟨sp, 0, none⟩)] 43)).alloc (.cells #[.pointer (some ⟨bk, 0, none⟩)] 83)).alloc (.cells #[.int .i64 h, .slice A ar.length c] 24)).alloc (.cells #[.int .i64 0, .int .i64 0] 81)).heap.size = W.heap.size + 1 + 1 + 1 + 1 := by simp
    have hh1 : -9223372036854775808 ≤ h := hi.1
    have HI := Lib.hid hI
    have HBA := Lib.hid hbA
    have HGA := Lib.hid gA
    have HZA := Lib.hid hzA
    have HSL := Lib.hid hsl
    have HIH := Lib.hid ih
    have HLL := Lib.hid hl
    have hll : ar.length ≤ 140737488355328 := by
      obtain ⟨_, _, _, _, h, _⟩ := hsl
      have e : (KT).by_ = 32 := rfl
      rw [e] at h; omega
    clear hI ht hsl hi gA hbA hzA ih hf hlow hl
    go_enter Try.func34, Try.ntmps34
    go_upto_region 7 with fail
    have hbA := HBA.out
    have gA := HGA.out
    have hzA := HZA.out
    clear HBA HGA HZA
    generalize ((((W.alloc (.cells #[.pointer (some ⟨sp, 0, none⟩)] 43)).alloc (.cells #[.pointer (some ⟨bk, 0, none⟩)] 83)).alloc (.cells #[.int .i64 h, .slice A ar.length c] 24)).alloc (.cells #[.int .i64 0, .int .i64 0] 81)) = W4 at *
    have g3 := gA 0 _ rfl
    have g4 := gA 1 _ rfl
    have g5 := gA 2 _ rfl
    have g6 : W4.heap[W.heap.size + 1 + 1 + 1]? = some (.cells #[.int .i64 0, .int .i64 0] 81) := gA 3 _ rfl
    have k3 : W4.cell? ⟨W.heap.size, 0, none⟩ = some (.pointer (some ⟨sp, 0, none⟩)) := cell_of_block g3 (j := 0) rfl
    have k4 : W4.cell? ⟨W.heap.size + 1, 0, none⟩ = some (.pointer (some ⟨bk, 0, none⟩)) := cell_of_block g4 (j := 0) rfl
    have k50 : W4.cell? ⟨W.heap.size + 1 + 1, 0, none⟩ = some (.int .i64 h) := cell_of_block g5 (j := 0) rfl
    have k51 : W4.cell? ⟨W.heap.size + 1 + 1, 1, none⟩ = some (.slice A ar.length c) := cell_of_block g5 (j := 1) rfl
    have k60 : W4.cell? ⟨W.heap.size + 1 + 1 + 1, 0, none⟩ = some (.int .i64 0) := cell_of_block g6 (j := 0) rfl
    have k61 : W4.cell? ⟨W.heap.size + 1 + 1 + 1, 1, none⟩ = some (.int .i64 0) := cell_of_block g6 (j := 1) rfl
    have k6f0 : W4.frozen? ⟨W.heap.size + 1 + 1 + 1, 0, none⟩ = false := frozen_of_block g6 0
    have k6f1 : W4.frozen? ⟨W.heap.size + 1 + 1 + 1, 1, none⟩ = false := frozen_of_block g6 1
    have hz6 : W.heap.size + 1 + 1 + 1 < W4.heap.size := by omega
    have HBA := Lib.hid hbA
    have HZA := Lib.hid hzA
    have HG3 := Lib.hid g3
    have HG4 := Lib.hid g4
    have HG6 := Lib.hid g6
    have HG5 := Lib.hid g5
    clear g3 g4 g5 g6 gA hbA hzA k3 k4 k60 k61 k6f0 k6f1
    go_upto_region 8 with fail
    have hb5 : Below W4.heap.size W4 (W4.alloc (.cells #[.int .i64 1, .int .i64 0] 81)) := (Below.refl _ _).alloc (Nat.le_refl _) _
    have gX := World.alloc_heap_new W4 (.cells #[.int .i64 1, .int .i64 0] 81)
    have hz5 : (W4.alloc (.cells #[.int .i64 1, .int .i64 0] 81)).heap.size = W4.heap.size + 1 := by simp
    generalize (W4.alloc (.cells #[.int .i64 1, .int .i64 0] 81)) = W5 at *
    generalize hxb : W4.heap.size = xb at *
    have hzA := HZA.out
    have g3 := (hb5.block _ (by omega)).trans HG3.out
    have g4 := (hb5.block _ (by omega)).trans HG4.out
    have g5 := (hb5.block _ (by omega)).trans HG5.out
    have g6 := (hb5.block _ (by omega)).trans HG6.out
    have hbW5 := HBA.out.trans (hb5.mono (by omega))
    have k50' := cell_of_block g5 (j := 0) (v := .int .i64 h) rfl
    have k51' := cell_of_block g5 (j := 1) (v := .slice A ar.length c) rfl
    have hbk : bk < W.heap.size := World.block_lt_of_cell? W _ (cell_of_block HI.out.ck (j := 0) (v := .map r) rfl)
    have hrk : ∀ k, r = some k → n0 ≤ k ∧ k < W.heap.size := fun k e => ⟨(HI.out.seen k e).1, (HI.out.seen k e).2.2.lt⟩
    have HRK := Lib.hid hrk
    have HBK := Lib.hid hbk
    have HXB := Lib.hid hzA
    have HI5 := Lib.hid (HI.out.later hbW5)
    have HSL5 := Lib.hid (HSL.out.later hbW5)
    have HBW5 := Lib.hid hbW5
    have HZ5 := Lib.hid hz5
    have hxb1 : W.heap.size + 1 + 1 + 1 < xb := hz6
    clear HG3 HG4 HG5 HG6 HBA HZA HSL k50 k51 hb5 hz5 hbW5 hxb hzA hbk hrk hz6
    have HG3 := Lib.hid g3
    have HG4 := Lib.hid g4
    have HG6 := Lib.hid g6
    have HGX := Lib.hid gX
    clear g3 g4 g5 g6 gX
    go_wp2_with fail
    go_loopg [40] (ar.length + 1) (fun k i wr => ∃ (d : Nat) (r1 : Option Nat) (Dk1 : Int → Option Value), d + k = ar.length + 1 ∧ d ≤ ar.length ∧ i = .int .i64 d ∧ MeasI F sp mb nn s D bk n0 r1 Dk1 wr ∧ Rok r r1 W5 ∧ SameOn (fun k => k ≠ bk ∧ r ≠ some k ∧ k ≠ xb) W5 wr ∧
      wr.heap[xb]? = some (.cells #[.int .i64 (o0 (ar'.take d)), .int .i64 (o1 (ar'.take d))] 81 (0, 0)))
    case atStart => exact ⟨0, r, Dk, by omega, by omega, rfl, HI5.out, .inl rfl, SameOn.refl _ _, HGX.out⟩
    case round =>
      obtain ⟨d, r1, Dk1, hd, hda, rfl, hI1, hR1, hS1, gX⟩ := hrel
      have hbk : bk < W.heap.size := HBK.out
      have hz5 := HZ5.out
      have hxe := HXB.out
      have hne : ∀ b, W.heap.size ≤ b → b < xb → b ≠ bk ∧ r ≠ some b ∧ b ≠ xb := fun b hb hx => ⟨by omega, fun e => by have := HRK.out _ e; omega, by omega⟩
      have k30 := cell_of_block ((hS1.block W.heap.size (by omega) (hne _ (by omega) (by omega))).trans HG3.out) (j := 0) (v := .pointer (some ⟨sp, 0, none⟩)) rfl
      have k40 := cell_of_block ((hS1.block (W.heap.size + 1) (by omega) (hne _ (by omega) (by omega))).trans HG4.out) (j := 0) (v := .pointer (some ⟨bk, 0, none⟩)) rfl
      have g6 := (hS1.block (W.heap.size + 1 + 1 + 1) (by omega) (hne _ (by omega) (by omega))).trans HG6.out
      have hx0 := cell_of_block gX (j := 0) (v := .int .i64 (o0 (ar'.take d))) rfl
      have hx1 := cell_of_block gX (j := 1) (v := .int .i64 (o1 (ar'.take d))) rfl
      have hxf0 := frozen_of_block gX 0
      have hxf1 := frozen_of_block gX 1
      have hb0 := o0_le (ar'.take d)
      have hb1 := o1_le (ar'.take d)
      have HI1 := Lib.hid hI1
      have HR1 := Lib.hid hR1
      have HS1 := Lib.hid hS1
      have HX := Lib.hid gX
      have HG6' := Lib.hid g6
      have HNE := Lib.hid hne
      clear hI1 hR1 hS1 gX g6 hne k50' k51' hxe
      by_cases hdl : d < ar.length
      · have hdl' : d < ar'.length := by have := HLL.out; omega
        have hslr := HSL5.out.same HS1.out (fun k hk => by have := hC.f k hk; have := hC.hbk; exact ⟨by omega, fun e => by have := HRK.out _ e; omega, by have := HNE.out k; omega⟩)
        obtain ⟨b1, o1', rfl, -, -, hcs⟩ := hslr.cells (by omega)
        obtain ⟨xa, ya, ka0, ka1, hxa⟩ := hcs d hdl
        obtain ⟨rfl, hia, hsa⟩ := hxa.parts
        obtain ⟨Aa, ca, rfl, -, -⟩ := hsa.shapeT
        have HXA := Lib.hid hxa
        clear hslr hcs hxa hsa
        go_upto_region 11 with fail
        have hb6 : Below wr.heap.size wr (wr.alloc (.cells #[.int .i64 ar[d].head, .slice Aa ar[d].args.length ca] 24)) := (Below.refl _ _).alloc (Nat.le_refl _) _
        have hn6 := World.alloc_heap_new wr (.cells #[.int .i64 ar[d].head, .slice Aa ar[d].args.length ca] 24)
        have hz6 : (wr.alloc (.cells #[.int .i64 ar[d].head, .slice Aa ar[d].args.length ca] 24)).heap.size = wr.heap.size + 1 := by simp
        generalize (wr.alloc (.cells #[.int .i64 ar[d].head, .slice Aa ar[d].args.length ca] 24)) = W6 at *
        have hxs : xb < wr.heap.size := (Array.getElem?_eq_some_iff.1 HX.out).1
        have k30 := cell_kept hb6 k30
        have k40 := cell_kept hb6 k40
        have k60 := cell_of_block hn6 (j := 0) (v := .int .i64 ar[d].head) rfl
        have k61 := cell_of_block hn6 (j := 1) (v := .slice Aa ar[d].args.length ca) rfl
        have hcall := HIH.out d hdl hdl' r1 Dk1 W6 _ _ (HI1.out.later hb6) (by omega) (HXA.out.later hb6)
        have HCALL := Lib.hid hcall
        have HB6 := Lib.hid hb6
        have HZ6 := Lib.hid hz6
        clear hcall hb6 hz6 hn6 ka0 ka1 hx0 hx1 hxf0 hxf1
        go_wp2_with fail
        refine HCALL.out.mono ?_
        rintro e w3 ⟨rfl, r3, Dk3, hI3, hR3, hS3⟩
        have hne1 : ∀ b, xb ≤ b → b < wr.heap.size → (∀ mk, r1 = some mk → mk ≠ b) → b ≠ bk ∧ r1 ≠ some b := fun b hb hx hm => ⟨by omega, fun e => hm _ e rfl⟩
        have gX3 := (hS3.block xb (by have := HZ6.out; omega) (hne1 xb (Nat.le_refl _) hxs (fun mk e => by subst e; exact HI1.out.ne_cells HX.out))).trans ((HB6.out.block _ hxs).trans HX.out)
        have hS03 : SameOn (fun k => k ≠ bk ∧ r ≠ some k ∧ k ≠ xb) W5 w3 := (HS1.out.trans (.of_new HB6.out)).join hS3 (fun k hk h => ⟨h.1, HR1.out.ne hk h.2.1⟩)
        have hR03 : Rok r r3 W5 := HR1.out.trans hR3 (by have := HS1.out.size; have := HZ6.out; omega)
        have HI3 := Lib.hid hI3
        have HR3 := Lib.hid hR03
        have HS3 := Lib.hid hS03
        have HX3 := Lib.hid gX3
        clear hI3 hR3 hS3 hne1 gX3 hS03 hR03 k30 k40 k60 k61
        go_upto_region 12 with fail
        have hb7 : Below w3.heap.size w3 (w3.alloc (.cells #[.int .i64 (m0 ar'[d]), .int .i64 (m1 ar'[d])] 81)) := (Below.refl _ _).alloc (Nat.le_refl _) _
        have hn7 := World.alloc_heap_new w3 (.cells #[.int .i64 (m0 ar'[d]), .int .i64 (m1 ar'[d])] 81)
        generalize (w3.alloc (.cells #[.int .i64 (m0 ar'[d]), .int .i64 (m1 ar'[d])] 81)) = W7 at *
        have hxs3 : xb < w3.heap.size := (Array.getElem?_eq_some_iff.1 HX3.out).1
        have gX7 := (hb7.block _ hxs3).trans HX3.out
        have hx1 := cell_of_block gX7 (j := 1) (v := .int .i64 (o1 (ar'.take d))) rfl
        have k70 := cell_of_block hn7 (j := 0) (v := .int .i64 (m0 ar'[d])) rfl
        have k71 := cell_of_block hn7 (j := 1) (v := .int .i64 (m1 ar'[d])) rfl
        have hm0 := m0_le ar'[d]
        have hm1 := m1_le ar'[d]
        have e0 := o0_snoc (ar'.take d) ar'[d]
        have e1 := o1_snoc (ar'.take d) ar'[d]
        rw [← List.take_succ_eq_append_getElem hdl'] at e0 e1
        generalize hp0 : o0 (ar'.take (d + 1)) = p0 at *
        generalize hp1 : o1 (ar'.take (d + 1)) = p1 at *
        generalize o0 (ar'.take d) = q0 at *
        generalize o1 (ar'.take d) = q1 at *
        generalize m0 ar'[d] = a0 at *
        generalize m1 ar'[d] = a1 at *
        have HB7 := Lib.hid hb7
        have HN7 := Lib.hid hn7
        have HX7 := Lib.hid gX7
        have HK70 := Lib.hid k70
        have HK71 := Lib.hid k71
        have HE0 := Lib.hid e0
        have HE1 := Lib.hid e1
        have hne7 : w3.heap.size ≠ xb := by omega
        have HNE7 := Lib.hid hne7
        clear hb7 hn7 gX7 hx1 e0 e1 k70 k71 hne7
        refine wp_inv 13 68 (fun ix u => match ix with | 0 => u = .pointer (some ⟨xb, 0, none⟩) | 1 => u = .int .i64 q0 | 2 => u = .pointer (some ⟨w3.heap.size, 0, none⟩) | 3 => u = .int .i64 a0 | 4 => u = .int .i64 (q0 + a0) | 5 => u = .int .i64 p0 | 6 => u = .pointer (some ⟨xb, 1, none⟩) | 7 => u = .int .i64 q1 | 8 => u = .pointer (some ⟨w3.heap.size, 1, none⟩) | 9 => u = .int .i64 a1 | 10 => u = .int .i64 p1 | 11 => u = .pointer (some ⟨xb, 0, none⟩) | 12 => u = undef | _ => True) (fun D W => SameOn (fun k => k ≠ xb) W7 W ∧ W.heap[xb]? = some (.cells #[.int .i64 (if D 12 = true then p0 else q0), .int .i64 q1] 81 (0, 0))) (by kernel_rfl) rfl (by decide +kernel) (⟨.of_new (Below.refl _ _).drew, HX7.out⟩) ?_ ?_
        · refine ⟨?_, ⟨?_, ⟨?_, ⟨?_, ⟨?_, ⟨?_, ⟨?_, ⟨?_, ⟨?_, ⟨?_, ⟨?_, ⟨?_, ⟨?_, trivial⟩⟩⟩⟩⟩⟩⟩⟩⟩⟩⟩⟩⟩
          · intro ρ W D hI hcl hDi hdep hc hg hf hbase hdeps
            have r10 := hbase 10 (by kernel_rfl)
            clear hbase hdeps
            go_simp
            exact ⟨hI, rfl⟩
          · intro ρ W D hI hcl hDi hdep hc hg hf hbase hdeps
            have r48 : ρ (.tmp 48) = .pointer (some ⟨xb, 0, none⟩) := (hdeps 0 _ 48 (by kernel_rfl) rfl rfl)
            clear hbase hdeps
            have h5 : D 12 = false := closed_no hcl hDi (o := _) rfl (by kernel_rfl)
            have kx := cell_of_block hI.2 (j := 0) rfl
            rw [h5] at kx
            clear h5
            go_simp
            exact ⟨hI, rfl⟩
          · intro ρ W D hI hcl hDi hdep hc hg hf hbase hdeps
            have r13 := hbase 13 (by kernel_rfl)
            clear hbase hdeps
            go_simp
            exact ⟨hI, rfl⟩
          · intro ρ W D hI hcl hDi hdep hc hg hf hbase hdeps
            have r50 : ρ (.tmp 50) = .pointer (some ⟨w3.heap.size, 0, none⟩) := (hdeps 2 _ 50 (by kernel_rfl) rfl rfl)
            clear hbase hdeps
            have k2 := hI.1.cell (p := ⟨w3.heap.size, 0, none⟩) HNE7.out HK70.out
            go_simp
            exact ⟨hI, rfl⟩
          · intro ρ W D hI hcl hDi hdep hc hg hf hbase hdeps
            have r49 : ρ (.tmp 49) = .int .i64 q0 := (hdeps 1 _ 49 (by kernel_rfl) rfl rfl)
            have r51 : ρ (.tmp 51) = .int .i64 a0 := (hdeps 3 _ 51 (by kernel_rfl) rfl rfl)
            clear hbase hdeps
            have hwr : IntKind.i64.wrap (q0 + a0) = q0 + a0 := IntWalk.i64_in _ (by omega)
            go_simp
            exact ⟨hI, rfl⟩
          · intro ρ W D hI hcl hDi hdep hc hg hf hbase hdeps
            have r52 : ρ (.tmp 52) = .int .i64 (q0 + a0) := (hdeps 4 _ 52 (by kernel_rfl) rfl rfl)
            clear hbase hdeps
            go_simp
            exact ⟨hI, by rw [HE0.out]⟩
          · intro ρ W D hI hcl hDi hdep hc hg hf hbase hdeps
            have r10 := hbase 10 (by kernel_rfl)
            clear hbase hdeps
            go_simp
            exact ⟨hI, rfl⟩
          · intro ρ W D hI hcl hDi hdep hc hg hf hbase hdeps
            have r54 : ρ (.tmp 54) = .pointer (some ⟨xb, 1, none⟩) := (hdeps 6 _ 54 (by kernel_rfl) rfl rfl)
            clear hbase hdeps
            have kx := cell_of_block hI.2 (j := 1) (v := .int .i64 q1) rfl
            go_simp
            exact ⟨hI, rfl⟩
          · intro ρ W D hI hcl hDi hdep hc hg hf hbase hdeps
            have r13 := hbase 13 (by kernel_rfl)
            clear hbase hdeps
            go_simp
            exact ⟨hI, rfl⟩
          · intro ρ W D hI hcl hDi hdep hc hg hf hbase hdeps
            have r56 : ρ (.tmp 56) = .pointer (some ⟨w3.heap.size, 1, none⟩) := (hdeps 8 _ 56 (by kernel_rfl) rfl rfl)
            clear hbase hdeps
            have k2 := hI.1.cell (p := ⟨w3.heap.size, 1, none⟩) HNE7.out HK71.out
            go_simp
            exact ⟨hI, rfl⟩
          · intro ρ W D hI hcl hDi hdep hc hg hf hbase hdeps
            have r55 : ρ (.tmp 55) = .int .i64 q1 := (hdeps 7 _ 55 (by kernel_rfl) rfl rfl)
            have r57 : ρ (.tmp 57) = .int .i64 a1 := (hdeps 9 _ 57 (by kernel_rfl) rfl rfl)
            clear hbase hdeps
            go_simp
            exact ⟨hI, by rw [HE1.out]⟩
          · intro ρ W D hI hcl hDi hdep hc hg hf hbase hdeps
            have r10 := hbase 10 (by kernel_rfl)
            clear hbase hdeps
            go_simp
            exact ⟨hI, rfl⟩
          · intro ρ W D hI hcl hDi hdep hc hg hf hbase hdeps
            have r59 : ρ (.tmp 59) = .pointer (some ⟨xb, 0, none⟩) := (hdeps 11 _ 59 (by kernel_rfl) rfl rfl)
            have r53 : ρ (.tmp 53) = .int .i64 p0 := (hdeps 5 _ 53 (by kernel_rfl) rfl rfl)
            clear hbase hdeps
            have k1 := cell_of_block hI.2 (j := 0) rfl
            have k1f := frozen_of_block hI.2 0
            go_simp
            exact ⟨⟨hI.1.trans (SameOn.set _ _ _ (fun h => h rfl)), heap_setCell_at hI.2 0 _⟩, rfl⟩
        · intro us W8 hW8 hus
          have hu0 : us 0 = .pointer (some ⟨xb, 0, none⟩) := hus 0 _ (by decide) rfl rfl
          have hu1 : us 1 = .int .i64 q0 := hus 1 _ (by decide) rfl rfl
          have hu2 : us 2 = .pointer (some ⟨w3.heap.size, 0, none⟩) := hus 2 _ (by decide) rfl rfl
          have hu3 : us 3 = .int .i64 a0 := hus 3 _ (by decide) rfl rfl
          have hu4 : us 4 = .int .i64 (q0 + a0) := hus 4 _ (by decide) rfl rfl
          have hu5 : us 5 = .int .i64 p0 := hus 5 _ (by decide) rfl rfl
          have hu6 : us 6 = .pointer (some ⟨xb, 1, none⟩) := hus 6 _ (by decide) rfl rfl
          have hu7 : us 7 = .int .i64 q1 := hus 7 _ (by decide) rfl rfl
          have hu8 : us 8 = .pointer (some ⟨w3.heap.size, 1, none⟩) := hus 8 _ (by decide) rfl rfl
          have hu9 : us 9 = .int .i64 a1 := hus 9 _ (by decide) rfl rfl
          have hu10 : us 10 = .int .i64 p1 := hus 10 _ (by decide) rfl rfl
          have hu11 : us 11 = .pointer (some ⟨xb, 0, none⟩) := hus 11 _ (by decide) rfl rfl
          clear hus
          simp only [List.drop_succ_cons, List.drop_zero, List.take_succ_cons, List.take_zero, fill, Act.put, List.setIfInBounds_toArray, List.set_cons_succ, List.set_cons_zero, hu0, hu1, hu2, hu3, hu4, hu5, hu6, hu7, hu8, hu9, hu10, hu11]
          clear hu0 hu1 hu2 hu3 hu4 hu5 hu6 hu7 hu8 hu9 hu10 hu11
          obtain ⟨w8s, w8h⟩ := hW8
          have w8h' : W8.heap[xb]? = some (.cells #[.int .i64 p0, .int .i64 q1] 81 (0, 0)) := by simpa using w8h
          have hx1 := cell_of_block w8h' (j := 1) (v := .int .i64 q1) rfl
          have hxf1 := frozen_of_block w8h' 1
          have HS8 := Lib.hid w8s
          have H8 := Lib.hid w8h'
          clear w8s w8h w8h'
          go_wp2
          have hs9 : SameOn (fun k => k ≠ xb) W8 (W8.setCell ⟨xb, 1, none⟩ (.int .i64 p1)) := SameOn.set _ _ _ (fun h => h rfl)
          have g9 := heap_setCell_at H8.out 1 (.int .i64 p1)
          generalize (W8.setCell ⟨xb, 1, none⟩ (.int .i64 p1)) = W9 at *
          have hr3 : ∀ k, r3 = some k → k ≠ xb := fun k e => by
            subst e
            exact HI3.out.ne_cells HX3.out
          have hsx := (SameOn.of_new (S := fun k => k ≠ xb) HB7.out).trans (HS8.out.trans hs9)
          go_roundg (gk - 1)
          case rel => exact ⟨d + 1, r3, Dk3, by omega, by omega, by go_num, HI3.out.same hsx (fun k hk => by have := hC.f k hk; omega) (by have := hC.hsp; omega) (by have := hC.hmb; omega) (by omega) hr3, HR3.out, HS3.out.join hsx (fun k hk h => h.2.2), by rw [hp0, hp1]; exact g9⟩
          case measure => omega
      · have hde : d = ar.length := by omega
        subst hde
        have htk : ar'.take ar.length = ar' := List.take_of_length_le (by have := HLL.out; omega)
        have g65 := HG6'.out
        have k60 := cell_of_block g65 (j := 0) (v := .int .i64 0) rfl
        have k61 := cell_of_block g65 (j := 1) (v := .int .i64 0) rfl
        have k6f0 := frozen_of_block g65 0
        have k6f1 := frozen_of_block g65 1
        have hE0 := o0_end h ar'
        have hE1 := o1_end h ar'
        have hX' := HX.out
        rw [htk] at hX'
        clear hx0 hx1 hxf0 hxf1 hb0 hb1 htk HX
        have hb0 := o0_le ar'
        have hb1 := o1_le ar'
        have hE0 := o0_end h ar'
        have hE1 := o1_end h ar'
        generalize hM0 : m0 (T.mk h ar') = p0 at *
        generalize hM1 : m1 (T.mk h ar') = p1 at *
        generalize o0 ar' = q0 at *
        generalize o1 ar' = q1 at *
        subst hE0
        have hx0 := cell_of_block hX' (j := 0) (v := .int .i64 p0) rfl
        have hx1 := cell_of_block hX' (j := 1) (v := .int .i64 q1) rfl
        have hxf0 := frozen_of_block hX' 0
        have hxf1 := frozen_of_block hX' 1
        have hxl : xb < wr.heap.size := (Array.getElem?_eq_some_iff.1 hX').1
        have HG65 := Lib.hid g65
        have hnx : W.heap.size + 1 + 1 + 1 ≠ xb := by omega
        have hr6 : ∀ k, r1 = some k → k ≠ W.heap.size + 1 + 1 + 1 := fun k e => by
          subst e
          exact HI1.out.ne_cells g65
        have hrx : ∀ k, r1 = some k → k ≠ xb := fun k e => by
          subst e
          exact HI1.out.ne_cells hX'
        have HR6 := Lib.hid hr6
        have HRX := Lib.hid hrx
        clear g65 hX' hr6 hrx
        by_cases hq : 41 < q1 + 1
        · rw [if_pos hq] at hE1
          go_wp2
          have hsx : SameOn (fun k => k ≠ xb) wr (wr.setCell ⟨xb, 1, none⟩ (.int .i64 (41))) := SameOn.set _ _ _ (fun h => h rfl)
          generalize (wr.setCell ⟨xb, 1, none⟩ (.int .i64 (41))) = WX at *
          have g65 := (hsx.block _ (Array.getElem?_eq_some_iff.1 HG65.out).1 hnx).trans HG65.out
          have hs5 : SameOn (fun k => k ≠ W.heap.size + 1 + 1 + 1) WX ((WX.setCell ⟨W.heap.size + 1 + 1 + 1, 0, none⟩ (.int .i64 p0)).setCell ⟨W.heap.size + 1 + 1 + 1, 1, none⟩ (.int .i64 (41))) :=
            (SameOn.set _ ⟨W.heap.size + 1 + 1 + 1, 0, none⟩ _ (by simp)).trans (SameOn.set _ ⟨W.heap.size + 1 + 1 + 1, 1, none⟩ _ (by simp))
          have h5 : ((WX.setCell ⟨W.heap.size + 1 + 1 + 1, 0, none⟩ (.int .i64 p0)).setCell ⟨W.heap.size + 1 + 1 + 1, 1, none⟩ (.int .i64 (41))).heap[W.heap.size + 1 + 1 + 1]? = some (.cells #[(.int .i64 p0), (.int .i64 (41))] 81 (0, 0)) :=
            heap_setCell_at (heap_setCell_at g65 0 (.int .i64 p0)) 1 (.int .i64 (41))
          generalize ((WX.setCell ⟨W.heap.size + 1 + 1 + 1, 0, none⟩ (.int .i64 p0)).setCell ⟨W.heap.size + 1 + 1 + 1, 1, none⟩ (.int .i64 (41))) = WE at *
          have e0 := cell_of_block h5 (j := 0) (v := (.int .i64 p0)) rfl
          have e1 := cell_of_block h5 (j := 1) (v := (.int .i64 (41))) rfl
          refine bodyPost_ret (v := .agg #[(.int .i64 p0), (.int .i64 (41))]) (by simp [results, Try.results34, go_sem, e0, e1]) rfl ?_
          have hsy : SameOn (fun k => k ≠ xb ∧ k ≠ W.heap.size + 1 + 1 + 1) wr WE := (hsx.mono fun k h => h.1).trans (hs5.mono fun k h => h.2)
          refine ⟨by rw [hM0, hM1, hE1], r1, Dk1, HI1.out.same hsy (fun k hk => by have := hC.f k hk; omega) (by have := hC.hsp; omega) (by have := hC.hmb; omega) (by omega) (fun k e => ⟨HRX.out k e, HR6.out k e⟩), HR1.out.weak HBW5.out.size, ?_⟩
          exact ((SameOn.of_new (S := fun k => k ≠ bk ∧ r ≠ some k) HBW5.out).join HS1.out (fun k hk h => ⟨h.1, h.2, by omega⟩)).join hsy (fun k hk _ => by omega)
        · rw [if_neg hq] at hE1
          go_wp2
          have hsx : SameOn (fun k => k ≠ xb) wr (wr.setCell ⟨xb, 1, none⟩ (.int .i64 (q1 + 1))) := SameOn.set _ _ _ (fun h => h rfl)
          generalize (wr.setCell ⟨xb, 1, none⟩ (.int .i64 (q1 + 1))) = WX at *
          have g65 := (hsx.block _ (Array.getElem?_eq_some_iff.1 HG65.out).1 hnx).trans HG65.out
          have hs5 : SameOn (fun k => k ≠ W.heap.size + 1 + 1 + 1) WX ((WX.setCell ⟨W.heap.size + 1 + 1 + 1, 0, none⟩ (.int .i64 p0)).setCell ⟨W.heap.size + 1 + 1 + 1, 1, none⟩ (.int .i64 (q1 + 1))) :=
            (SameOn.set _ ⟨W.heap.size + 1 + 1 + 1, 0, none⟩ _ (by simp)).trans (SameOn.set _ ⟨W.heap.size + 1 + 1 + 1, 1, none⟩ _ (by simp))
          have h5 : ((WX.setCell ⟨W.heap.size + 1 + 1 + 1, 0, none⟩ (.int .i64 p0)).setCell ⟨W.heap.size + 1 + 1 + 1, 1, none⟩ (.int .i64 (q1 + 1))).heap[W.heap.size + 1 + 1 + 1]? = some (.cells #[(.int .i64 p0), (.int .i64 (q1 + 1))] 81 (0, 0)) :=
            heap_setCell_at (heap_setCell_at g65 0 (.int .i64 p0)) 1 (.int .i64 (q1 + 1))
          generalize ((WX.setCell ⟨W.heap.size + 1 + 1 + 1, 0, none⟩ (.int .i64 p0)).setCell ⟨W.heap.size + 1 + 1 + 1, 1, none⟩ (.int .i64 (q1 + 1))) = WE at *
          have e0 := cell_of_block h5 (j := 0) (v := (.int .i64 p0)) rfl
          have e1 := cell_of_block h5 (j := 1) (v := (.int .i64 (q1 + 1))) rfl
          refine bodyPost_ret (v := .agg #[(.int .i64 p0), (.int .i64 (q1 + 1))]) (by simp [results, Try.results34, go_sem, e0, e1]) rfl ?_
          have hsy : SameOn (fun k => k ≠ xb ∧ k ≠ W.heap.size + 1 + 1 + 1) wr WE := (hsx.mono fun k h => h.1).trans (hs5.mono fun k h => h.2)
          refine ⟨by rw [hM0, hM1, hE1], r1, Dk1, HI1.out.same hsy (fun k hk => by have := hC.f k hk; omega) (by have := hC.hsp; omega) (by have := hC.hmb; omega) (by omega) (fun k e => ⟨HRX.out k e, HR6.out k e⟩), HR1.out.weak HBW5.out.size, ?_⟩
          exact ((SameOn.of_new (S := fun k => k ≠ bk ∧ r ≠ some k) HBW5.out).join HS1.out (fun k hk h => ⟨h.1, h.2, by omega⟩)).join hsy (fun k hk _ => by omega)
end Go.Proofs.Ytokhnlhffnidmaa
