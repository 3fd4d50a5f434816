/- The solver's bindings; a term followed while it is bound. -/
import Derived.Test.YtokhnlhffnidmaaMixS
import Derived.Test.YtokhnlhffnidmaaMp
import Derived.Test.YtokhnlhffnidmaaRefF
import Derived.IntWalk
import Derived.Deep.DeepCutAuto
import Derived.Outline
namespace Go.Proofs.Ytokhnlhffnidmaa
open Go.RowKit Elen

/-- a walk, its steps counted -/
inductive WalkK (s : Sub) : Nat → T → T → Prop
  | done {t : T} : (t.head < 0 → s (-1 - t.head) = none) → WalkK s 0 t t
  | step {k : Nat} {t u r : T} : t.head < 0 → s (-1 - t.head) = some u → WalkK s k u r → WalkK s (k + 1) t r
theorem Walk.count {s : Sub} {t u : T} (h : Walk s t u) : ∃ k, WalkK s k t u := by
  induction h with
  | node h0 => exact ⟨0, .done fun h => absurd h (by simp only [T.head]; omega)⟩
  | free h0 hs => exact ⟨0, .done fun _ => hs⟩
  | step h0 hs _ ih => obtain ⟨k, ih⟩ := ih; exact ⟨k + 1, .step h0 hs ih⟩

theorem WalkK.inv {s : Sub} {k : Nat} {t r : T} (h : WalkK s k t r) : (k = 0 ∧ t = r ∧ (r.head < 0 → s (-1 - r.head) = none)) ∨ ∃ k' u, k = k' + 1 ∧ t.head < 0 ∧ s (-1 - t.head) = some u ∧ WalkK s k' u r := by
  cases h with
  | done h => exact .inl ⟨rfl, rfl, h⟩
  | step h0 h1 h2 => exact .inr ⟨_, _, rfl, h0, h1, h2⟩

/-- what is bound, in memory: F: the blocks that the terms lean on -/
structure Solv (F : Nat → Prop) (w : World) (sp mb n : Nat) (s : Sub) (D : Int → Option Value) : Prop where
  ptr : w.cell? ⟨sp, 0, none⟩ = some (.map (some mb))
  map : MapI w mb n D
  none_ : ∀ k, s k = none → D k = none
  some_ : ∀ k t, s k = some t → ∃ x y, D k = some (.agg #[x, y]) ∧ IsF F w t x y
theorem Solv.same {F S : Nat → Prop} {w w1 : World} {sp mb n : Nat} {s : Sub} {D : Int → Option Value} (h : Solv F w sp mb n s D) (hs : SameOn S w w1) (hF : ∀ k, F k → S k) (h1 : S sp) (h2 : S mb) : Solv F w1 sp mb n s D where
  ptr := hs.cell h1 h.ptr
  map := h.map.later (hs.block mb h.map.lt h2)
  none_ := h.none_
  some_ k t e := by obtain ⟨x, y, e1, e2⟩ := h.some_ k t e; exact ⟨x, y, e1, e2.same hs hF⟩
theorem Solv.later {F : Nat → Prop} {w w1 : World} {sp mb n : Nat} {s : Sub} {D : Int → Option Value} (h : Solv F w sp mb n s D) (hs : Below w.heap.size w w1) : Solv F w1 sp mb n s D :=
  h.same (S := fun _ => True) (.of_new hs) (fun _ _ => trivial) trivial trivial

def AtPost (F : Nat → Prop) (u : T) (w : World) (e : Ending) (w' : World) : Prop := ∃ v, e = .returned v ∧ VF F w' u v ∧ Below w.heap.size w w'

/-- a region that looks a term up and lays it in a block of its own: operation 11 makes the block, 12 fills it -/
structure AtInv (wr : World) (x y : Value) (D : Nat → Bool) (W : World) : Prop where
  below : Below wr.heap.size wr W
  size : W.heap.size = wr.heap.size + (if D 11 = true then 1 else 0)
  block : D 11 = true → W.heap[wr.heap.size]? = some (.cells (if D 12 = true then #[x, y] else #[.int .i64 0, .slice none 0 0]) 24 (0, 0))
theorem AtInv.start (wr : World) (x y : Value) : AtInv wr x y (fun _ => false) wr.drew := ⟨(Below.refl _ _).drew, rfl, fun h => by cases h⟩
theorem AtInv.keep {wr W : World} {x y : Value} {D : Nat → Bool} (h : AtInv wr x y D W) (i : Nat) (h1 : (11 == i) = false) (h2 : (12 == i) = false) : AtInv wr x y (fun k => k == i || D k) W := by
  refine ⟨h.below, ?_, ?_⟩
  · rw [h1]; exact h.size
  · rw [h1, h2]; exact h.block
theorem AtInv.alloc {wr W : World} {x y : Value} {D : Nat → Bool} (h : AtInv wr x y D W) (h11 : D 11 = false) (h12 : D 12 = false) : AtInv wr x y (fun k => k == 11 || D k) (W.alloc (.cells #[.int .i64 0, .slice none 0 0] 24)) where
  below := h.below.alloc (by have := h.size; omega) _
  size := by
    have := h.size
    rw [h11] at this
    rw [World.size_alloc, this]; rfl
  block _ := by
    have e := h.size
    rw [h11] at e
    simp only [Bool.false_eq_true, if_false, Nat.add_zero] at e
    have := World.alloc_heap_new W (.cells #[.int .i64 0, .slice none 0 0] 24)
    rw [e] at this
    rw [this]
    simp [h12]
theorem AtInv.store {wr W : World} {x y : Value} {D : Nat → Bool} (h : AtInv wr x y D W) (h11 : D 11 = true) : AtInv wr x y (fun k => k == 12 || D k) ((W.setCell ⟨wr.heap.size, 0, none⟩ x).setCell ⟨wr.heap.size, 1, none⟩ y) where
  below := (h.below.setCell (p := ⟨wr.heap.size, 0, none⟩) (Nat.le_refl _) x).setCell (p := ⟨wr.heap.size, 1, none⟩) (Nat.le_refl _) y
  size := by
    have := h.size
    rw [h11] at this
    simp only [World.setCell, Array.size_modify, this]
    simp [h11]
  block _ := by
    have e := heap_setCell_at (heap_setCell_at (h.block h11) 0 x) 1 y
    rw [e]
    simp only [beq_self_eq_true, Bool.true_or, if_true]
    split <;> rfl

set_option maxRecDepth 100000 in
set_option maxHeartbeats 1000000 in
theorem at_calls' (F : Nat → Prop) (sp mb n : Nat) (s : Sub) (D : Int → Option Value) (t u : T) (v : Value) (w : World) (hF : ∀ k, F k → k < w.heap.size) (hS : Solv F w sp mb n s D) (ht : VF F w t v) (hw : Walk s t u) :
    Calls Try.prog 30 #[.pointer (some ⟨sp, 0, none⟩), v] w (AtPost F u w) := by
  obtain ⟨K, hK⟩ := Walk.count hw
  obtain ⟨x, y, rfl, ht⟩ := ht
  obtain ⟨rfl, hi, hs⟩ := ht.parts
  obtain ⟨A, c, rfl, -, -⟩ := hs.shapeT
  have HS := Lib.hid hS
  have HF := Lib.hid hF
  clear hF
  have HT := Lib.hid ht
  have HK := Lib.hid hK
  clear hS ht hK hw hs
  have hb0 : Below w.heap.size w ((w.alloc (.cells #[.int .i64 t.head, .slice A t.args.length c] 24)).alloc (.cells #[.int .i64 0, .slice none 0 0] 24)) := ((Below.refl _ _).alloc (Nat.le_refl _) _).alloc (by simp) _
  have HB0 := Lib.hid hb0
  clear hb0
  go_enter Try.func30, Try.ntmps30
  go_wp2_with fail
  go_loopg [] (K + 1) (fun k wr => ∃ (kk : Nat) (t1 : T) (y1 : Value), kk + 1 = k ∧ WalkK s kk t1 u ∧ IsF F wr t1 (.int .i64 t1.head) y1 ∧ wr.heap[w.heap.size]? = some (.cells #[.int .i64 t1.head, y1] 24 (0, 0)) ∧ Below w.heap.size w wr ∧ ∃ x2 y2, wr.heap[w.heap.size + 1]? = some (.cells #[x2, y2] 24 (0, 0)))
  case atStart =>
    refine ⟨K, t, .slice A t.args.length c, rfl, HK.out, HT.out.later HB0.out, ?_, HB0.out, .int .i64 0, .slice none 0 0, ?_⟩
    · rw [Below.heap_alloc _ _ _ (by simp)]; exact World.alloc_heap_new _ _
    · have := World.alloc_heap_new (w.alloc (.cells #[.int .i64 t.head, .slice A t.args.length c] 24)) (.cells #[.int .i64 0, .slice none 0 0] 24)
      rwa [World.size_alloc] at this
  case round =>
    obtain ⟨kk, t1, y1, hkk, hwk, ht1, h1, hB, x2, y2, h2⟩ := hrel
    obtain ⟨-, hi1, hs1⟩ := ht1.parts
    obtain ⟨A1, c1, rfl, -, -⟩ := hs1.shapeT
    have ka0 := cell_of_block h1 (j := 0) (v := .int .i64 t1.head) rfl
    have ka1 := cell_of_block h1 (j := 1) (v := .slice A1 t1.args.length c1) rfl
    have kaf := frozen_of_block h1
    have kaf0 := kaf 0
    have kaf1 := kaf 1
    have kbf0 := frozen_of_block h2 0
    have kbf1 := frozen_of_block h2 1
    have kb0 := cell_of_block h2 (j := 0) (v := x2) rfl
    have kb1 := cell_of_block h2 (j := 1) (v := y2) rfl
    have hz1 := (Array.getElem?_eq_some_iff.1 h2).1
    have HT1 := Lib.hid ht1
    have HB := Lib.hid hB
    have HG := Lib.hid hkk
    have H1 := Lib.hid h1
    have H2 := Lib.hid h2
    clear kaf hs1 h1 h2 ht1 hB hkk
    have hBW : Below w.heap.size w wr := HB.out
    have HBW := Lib.hid hBW
    clear hBW
    rcases hwk.inv with ⟨rfl, rfl, hnone⟩ | ⟨k', u', rfl, h0, hs1, hwk'⟩
    · by_cases h0 : t1.head < 0
      · have hn := HS.out.none_ _ (hnone h0)
        clear hnone
        have hz0 := H2.out
        have hl0 := HS.out.later HBW.out
        obtain ⟨lp, lm, -, -⟩ := hl0
        have hkey : I64 (-1 - t1.head) := by unfold I64 at *; omega
        have hlook : ∀ W : World, Below wr.heap.size wr W → (Instr.lookup 44 (.map (some mb)) (.int .i64 (-1 - t1.head)) true).run Try.prog W = .ok (.tuple #[.agg #[.int .i64 0, .slice none 0 0], .bool false]) W := fun W hW => by
          have := (lm.below hW).look Try.underlying44 (Try.zeroValue24 _) hkey true
          rw [hn] at this
          exact this
        have HLK := Lib.hid hlook
        have hwr : IntKind.i64.wrap (-1 - t1.head) = -1 - t1.head := IntWalk.i64_in _ (by unfold I64 at hkey; omega)
        clear lm hlook hn hz0 hkey
        go_wp2_with fail
        refine wp_inv 13 25 (fun ix u => match ix with | 0 => u = .pointer (some ⟨sp, 0, none⟩) | 1 => u = .pointer (some ⟨sp, 0, none⟩) | 2 => u = .pointer (some ⟨sp, 0, none⟩) | 3 => u = .map (some mb) | 4 => u = .pointer (some ⟨w.heap.size, 0, none⟩) | 5 => u = .int .i64 t1.head | 6 => u = .int .i64 (-1 - t1.head) | 7 => u = .tuple #[.agg #[.int .i64 0, .slice none 0 0], .bool false] | 8 => u = .tuple #[.agg #[.int .i64 0, .slice none 0 0], .bool false] | 9 => u = .agg #[.int .i64 0, .slice none 0 0] | 10 => u = .bool false | 11 => u = .pointer (some ⟨wr.heap.size, 0, none⟩) | 12 => u = undef | _ => True) (AtInv wr (.int .i64 0) (.slice none 0 0)) (by kernel_rfl) rfl (by decide +kernel) (AtInv.start _ _ _) ?_ ?_
        · refine ⟨?_, ⟨?_, ⟨?_, ⟨?_, ⟨?_, ⟨?_, ⟨?_, ⟨?_, ⟨?_, ⟨?_, ⟨?_, ⟨?_, ⟨?_, trivial⟩⟩⟩⟩⟩⟩⟩⟩⟩⟩⟩⟩⟩
          · intro ρ W D hI hcl hDi hdep hc hg hf hbase hdeps
            have r0 := hbase 0 (by kernel_rfl)
            clear hbase hdeps
            go_simp
            exact ⟨hI.keep _ (by decide) (by decide), rfl⟩
          · intro ρ W D hI hcl hDi hdep hc hg hf hbase hdeps
            have r11 : ρ (.tmp 11) = .pointer (some ⟨sp, 0, none⟩) := (hdeps 0 _ 11 (by kernel_rfl) rfl rfl)
            clear hbase hdeps
            go_simp
            exact ⟨hI.keep _ (by decide) (by decide), rfl⟩
          · intro ρ W D hI hcl hDi hdep hc hg hf hbase hdeps
            have r12 : ρ (.tmp 12) = .pointer (some ⟨sp, 0, none⟩) := (hdeps 1 _ 12 (by kernel_rfl) rfl rfl)
            clear hbase hdeps
            go_simp
            exact ⟨hI.keep _ (by decide) (by decide), rfl⟩
          · intro ρ W D hI hcl hDi hdep hc hg hf hbase hdeps
            have r13 : ρ (.tmp 13) = .pointer (some ⟨sp, 0, none⟩) := (hdeps 2 _ 13 (by kernel_rfl) rfl rfl)
            clear hbase hdeps
            have kk := cell_kept hI.below lp
            go_simp
            exact ⟨hI.keep _ (by decide) (by decide), rfl⟩
          · intro ρ W D hI hcl hDi hdep hc hg hf hbase hdeps
            have r3 := hbase 3 (by kernel_rfl)
            clear hbase hdeps
            go_simp
            exact ⟨hI.keep _ (by decide) (by decide), rfl⟩
          · intro ρ W D hI hcl hDi hdep hc hg hf hbase hdeps
            have r15 : ρ (.tmp 15) = .pointer (some ⟨w.heap.size, 0, none⟩) := (hdeps 4 _ 15 (by kernel_rfl) rfl rfl)
            clear hbase hdeps
            have kk := cell_kept hI.below ka0
            go_simp
            exact ⟨hI.keep _ (by decide) (by decide), rfl⟩
          · intro ρ W D hI hcl hDi hdep hc hg hf hbase hdeps
            have r16 : ρ (.tmp 16) = .int .i64 t1.head := (hdeps 5 _ 16 (by kernel_rfl) rfl rfl)
            clear hbase hdeps
            go_simp
            exact ⟨hI.keep _ (by decide) (by decide), rfl⟩
          · intro ρ W D hI hcl hDi hdep hc hg hf hbase hdeps
            have r14 : ρ (.tmp 14) = .map (some mb) := (hdeps 3 _ 14 (by kernel_rfl) rfl rfl)
            have r17 : ρ (.tmp 17) = .int .i64 (-1 - t1.head) := (hdeps 6 _ 17 (by kernel_rfl) rfl rfl)
            clear hbase hdeps
            have hlk := HLK.out W hI.below
            go_simp
            exact ⟨hI.keep _ (by decide) (by decide), rfl⟩
          · intro ρ W D hI hcl hDi hdep hc hg hf hbase hdeps
            have r18 : ρ (.tmp 18) = .tuple #[.agg #[.int .i64 0, .slice none 0 0], .bool false] := (hdeps 7 _ 18 (by kernel_rfl) rfl rfl)
            clear hbase hdeps
            go_simp
            exact ⟨hI.keep _ (by decide) (by decide), rfl⟩
          · intro ρ W D hI hcl hDi hdep hc hg hf hbase hdeps
            have r10 : ρ (.tmp 10) = .tuple #[.agg #[.int .i64 0, .slice none 0 0], .bool false] := (hdeps 8 _ 10 (by kernel_rfl) rfl rfl)
            clear hbase hdeps
            go_simp
            exact ⟨hI.keep _ (by decide) (by decide), rfl⟩
          · intro ρ W D hI hcl hDi hdep hc hg hf hbase hdeps
            have r10 : ρ (.tmp 10) = .tuple #[.agg #[.int .i64 0, .slice none 0 0], .bool false] := (hdeps 8 _ 10 (by kernel_rfl) rfl rfl)
            clear hbase hdeps
            go_simp
            exact ⟨hI.keep _ (by decide) (by decide), rfl⟩
          · intro ρ W D hI hcl hDi hdep hc hg hf hbase hdeps
            clear hbase hdeps
            have hz := hI.size
            have h12 : D 12 = false := closed_no hcl hDi (o := _) rfl (by kernel_rfl)
            rw [hDi] at hz
            simp only [Bool.false_eq_true, if_false, Nat.add_zero] at hz
            have HI := Lib.hid hI
            have H11 := Lib.hid hDi
            have H12 := Lib.hid h12
            clear hI h12
            go_simp
            exact ⟨HI.out.alloc H11.out H12.out, rfl⟩
          · intro ρ W D hI hcl hDi hdep hc hg hf hbase hdeps
            have r5 : ρ (.tmp 5) = .pointer (some ⟨wr.heap.size, 0, none⟩) := (hdeps 11 _ 5 (by kernel_rfl) rfl rfl)
            have r19 : ρ (.tmp 19) = .agg #[.int .i64 0, .slice none 0 0] := (hdeps 9 _ 19 (by kernel_rfl) rfl rfl)
            clear hbase hdeps
            have h11 := hdep 11 (by decide +kernel)
            have kk := hI.block h11
            rw [hDi] at kk
            have kc0 := cell_of_block kk (j := 0) (v := .int .i64 0) rfl
            have kc1 := cell_of_block kk (j := 1) (v := .slice none 0 0) rfl
            have kf0 := frozen_of_block kk 0
            have kf1 := frozen_of_block kk 1
            have HI := Lib.hid hI
            have H11 := Lib.hid h11
            clear hI h11 kk hDi
            go_simp
            exact ⟨HI.out.store H11.out, rfl⟩
        · intro us W1 hW1 hus
          have hu0 : us 0 = .pointer (some ⟨sp, 0, none⟩) := hus 0 _ (by decide) rfl rfl
          have hu1 : us 1 = .pointer (some ⟨sp, 0, none⟩) := hus 1 _ (by decide) rfl rfl
          have hu2 : us 2 = .pointer (some ⟨sp, 0, none⟩) := hus 2 _ (by decide) rfl rfl
          have hu3 : us 3 = .map (some mb) := hus 3 _ (by decide) rfl rfl
          have hu4 : us 4 = .pointer (some ⟨w.heap.size, 0, none⟩) := hus 4 _ (by decide) rfl rfl
          have hu5 : us 5 = .int .i64 t1.head := hus 5 _ (by decide) rfl rfl
          have hu6 : us 6 = .int .i64 (-1 - t1.head) := hus 6 _ (by decide) rfl rfl
          have hu7 : us 7 = .tuple #[.agg #[.int .i64 0, .slice none 0 0], .bool false] := hus 7 _ (by decide) rfl rfl
          have hu8 : us 8 = .tuple #[.agg #[.int .i64 0, .slice none 0 0], .bool false] := hus 8 _ (by decide) rfl rfl
          have hu9 : us 9 = .agg #[.int .i64 0, .slice none 0 0] := hus 9 _ (by decide) rfl rfl
          have hu10 : us 10 = .bool false := hus 10 _ (by decide) rfl rfl
          have hu11 : us 11 = .pointer (some ⟨wr.heap.size, 0, none⟩) := hus 11 _ (by decide) rfl rfl
          clear hus
          simp only [List.drop_succ_cons, List.drop_zero, List.take_succ_cons, List.take_zero, fill, Act.put, List.setIfInBounds_toArray, List.set_cons_succ, List.set_cons_zero, hu0, hu1, hu2, hu3, hu4, hu5, hu6, hu7, hu8, hu9, hu10, hu11]
          clear hu0 hu1 hu2 hu3 hu4 hu5 hu6 hu7 hu8 hu9 hu10 hu11
          have hb1 := hW1.below
          have c5 : W1.heap[wr.heap.size]? = some (.cells #[.int .i64 0, .slice none 0 0] 24 (0, 0)) := hW1.block rfl
          have h1w := (hb1.block w.heap.size (by omega)).trans H1.out
          have h2w := (hb1.block (w.heap.size + 1) hz1).trans H2.out
          have HB1 := Lib.hid hb1
          have H1W := Lib.hid h1w
          have H2W := Lib.hid h2w
          have HBW1 := Lib.hid (below_then HB.out (by omega) hb1)
          have hz5 : wr.heap.size < W1.heap.size := (Array.getElem?_eq_some_iff.1 c5).1
          have k50 := cell_of_block c5 (j := 0) (v := .int .i64 0) rfl
          have k51 := cell_of_block c5 (j := 1) (v := .slice none 0 0) rfl
          have kd0 := cell_of_block h1w (j := 0) (v := .int .i64 t1.head) rfl
          have kd1 := cell_of_block h1w (j := 1) (v := .slice A1 t1.args.length c1) rfl
          have kdf0 := frozen_of_block h1w 0
          have kdf1 := frozen_of_block h1w 1
          have ke0 := cell_of_block h2w (j := 0) (v := x2) rfl
          have ke1 := cell_of_block h2w (j := 1) (v := y2) rfl
          have kef0 := frozen_of_block h2w 0
          have kef1 := frozen_of_block h2w 1
          clear hW1 hb1 c5 h1w h2w hwr ka0 ka1 kaf0 kaf1 kb0 kb1 kbf0 kbf1 lp
          go_wp2
          have g0 : ((W1.setCell ⟨w.heap.size + 1, 0, none⟩ (.int .i64 t1.head)).setCell ⟨w.heap.size + 1, 1, none⟩ (.slice A1 t1.args.length c1)).heap[w.heap.size + 1]? = some (.cells #[.int .i64 t1.head, .slice A1 t1.args.length c1] 24 (0, 0)) := by
            have e := heap_setCell_at (heap_setCell_at H2W.out 0 (.int .i64 t1.head)) 1 (.slice A1 t1.args.length c1)
            exact e
          have hb := (HBW1.out.setCell (p := ⟨w.heap.size + 1, 0, none⟩) (by simp) (.int .i64 t1.head)).setCell (p := ⟨w.heap.size + 1, 1, none⟩) (by simp) (.slice A1 t1.args.length c1)
          have hx : IsF F ((W1.setCell ⟨w.heap.size + 1, 0, none⟩ (.int .i64 t1.head)).setCell ⟨w.heap.size + 1, 1, none⟩ (.slice A1 t1.args.length c1)) t1 (.int .i64 t1.head) (.slice A1 t1.args.length c1) := (HT1.out.later HB1.out).same (S := fun k => k < w.heap.size) ((SameOn.set _ ⟨w.heap.size + 1, 0, none⟩ _ (by simp)).trans (SameOn.set _ ⟨w.heap.size + 1, 1, none⟩ _ (by simp))) HF.out
          generalize ((W1.setCell ⟨w.heap.size + 1, 0, none⟩ (.int .i64 t1.head)).setCell ⟨w.heap.size + 1, 1, none⟩ (.slice A1 t1.args.length c1)) = WE at *
          have g1 := cell_of_block g0 (j := 0) (v := .int .i64 t1.head) rfl
          have g2 := cell_of_block g0 (j := 1) (v := .slice A1 t1.args.length c1) rfl
          exact bodyPost_ret (v := .agg #[.int .i64 t1.head, .slice A1 t1.args.length c1]) (by simp [results, Try.results30, go_sem, g1, g2]) rfl ⟨_, rfl, ⟨_, _, rfl, hx⟩, hb⟩
      · clear hnone
        go_wp2
        have g0 : ((wr.setCell ⟨w.heap.size + 1, 0, none⟩ (.int .i64 t1.head)).setCell ⟨w.heap.size + 1, 1, none⟩ (.slice A1 t1.args.length c1)).heap[w.heap.size + 1]? = some (.cells #[.int .i64 t1.head, .slice A1 t1.args.length c1] 24 (0, 0)) := by
          have e := heap_setCell_at (heap_setCell_at H2.out 0 (.int .i64 t1.head)) 1 (.slice A1 t1.args.length c1)
          exact e
        have hb := (HB.out.setCell (p := ⟨w.heap.size + 1, 0, none⟩) (by simp) (.int .i64 t1.head)).setCell (p := ⟨w.heap.size + 1, 1, none⟩) (by simp) (.slice A1 t1.args.length c1)
        have hx : IsF F ((wr.setCell ⟨w.heap.size + 1, 0, none⟩ (.int .i64 t1.head)).setCell ⟨w.heap.size + 1, 1, none⟩ (.slice A1 t1.args.length c1)) t1 (.int .i64 t1.head) (.slice A1 t1.args.length c1) := HT1.out.same (S := fun k => k < w.heap.size) ((SameOn.set _ ⟨w.heap.size + 1, 0, none⟩ _ (by simp)).trans (SameOn.set _ ⟨w.heap.size + 1, 1, none⟩ _ (by simp))) HF.out
        generalize ((wr.setCell ⟨w.heap.size + 1, 0, none⟩ (.int .i64 t1.head)).setCell ⟨w.heap.size + 1, 1, none⟩ (.slice A1 t1.args.length c1)) = WE at *
        have g1 := cell_of_block g0 (j := 0) (v := .int .i64 t1.head) rfl
        have g2 := cell_of_block g0 (j := 1) (v := .slice A1 t1.args.length c1) rfl
        exact bodyPost_ret (v := .agg #[.int .i64 t1.head, .slice A1 t1.args.length c1]) (by simp [results, Try.results30, go_sem, g1, g2]) rfl ⟨_, rfl, ⟨_, _, rfl, hx⟩, hb⟩
    · obtain ⟨xs, ys, hn, hxs⟩ := HS.out.some_ _ _ hs1
      obtain ⟨rfl, hi2, hs2⟩ := hxs.parts
      obtain ⟨A2, c2, rfl, -, -⟩ := hs2.shapeT
      have HXS := Lib.hid hxs
      have HWK := Lib.hid hwk'
      clear hs2 hxs hwk' hs1
      have hz0 := H2.out
      have hl0 := HS.out.later HBW.out
      obtain ⟨lp, lm, -, -⟩ := hl0
      have hkey : I64 (-1 - t1.head) := by unfold I64 at *; omega
      have hlook : ∀ W : World, Below wr.heap.size wr W → (Instr.lookup 44 (.map (some mb)) (.int .i64 (-1 - t1.head)) true).run Try.prog W = .ok (.tuple #[.agg #[.int .i64 u'.head, .slice A2 u'.args.length c2], .bool true]) W := fun W hW => by
        have := (lm.below hW).look Try.underlying44 (Try.zeroValue24 _) hkey true
        rw [hn] at this
        exact this
      have HLK := Lib.hid hlook
      have hwr : IntKind.i64.wrap (-1 - t1.head) = -1 - t1.head := IntWalk.i64_in _ (by unfold I64 at hkey; omega)
      clear lm hlook hn hz0 hkey
      go_wp2_with fail
      refine wp_inv 13 25 (fun ix u => match ix with | 0 => u = .pointer (some ⟨sp, 0, none⟩) | 1 => u = .pointer (some ⟨sp, 0, none⟩) | 2 => u = .pointer (some ⟨sp, 0, none⟩) | 3 => u = .map (some mb) | 4 => u = .pointer (some ⟨w.heap.size, 0, none⟩) | 5 => u = .int .i64 t1.head | 6 => u = .int .i64 (-1 - t1.head) | 7 => u = .tuple #[.agg #[.int .i64 u'.head, .slice A2 u'.args.length c2], .bool true] | 8 => u = .tuple #[.agg #[.int .i64 u'.head, .slice A2 u'.args.length c2], .bool true] | 9 => u = .agg #[.int .i64 u'.head, .slice A2 u'.args.length c2] | 10 => u = .bool true | 11 => u = .pointer (some ⟨wr.heap.size, 0, none⟩) | 12 => u = undef | _ => True) (AtInv wr (.int .i64 u'.head) (.slice A2 u'.args.length c2)) (by kernel_rfl) rfl (by decide +kernel) (AtInv.start _ _ _) ?_ ?_
      · refine ⟨?_, ⟨?_, ⟨?_, ⟨?_, ⟨?_, ⟨?_, ⟨?_, ⟨?_, ⟨?_, ⟨?_, ⟨?_, ⟨?_, ⟨?_, trivial⟩⟩⟩⟩⟩⟩⟩⟩⟩⟩⟩⟩⟩
        · intro ρ W D hI hcl hDi hdep hc hg hf hbase hdeps
          have r0 := hbase 0 (by kernel_rfl)
          clear hbase hdeps
          go_simp
          exact ⟨hI.keep _ (by decide) (by decide), rfl⟩
        · intro ρ W D hI hcl hDi hdep hc hg hf hbase hdeps
          have r11 : ρ (.tmp 11) = .pointer (some ⟨sp, 0, none⟩) := (hdeps 0 _ 11 (by kernel_rfl) rfl rfl)
          clear hbase hdeps
          go_simp
          exact ⟨hI.keep _ (by decide) (by decide), rfl⟩
        · intro ρ W D hI hcl hDi hdep hc hg hf hbase hdeps
          have r12 : ρ (.tmp 12) = .pointer (some ⟨sp, 0, none⟩) := (hdeps 1 _ 12 (by kernel_rfl) rfl rfl)
          clear hbase hdeps
          go_simp
          exact ⟨hI.keep _ (by decide) (by decide), rfl⟩
        · intro ρ W D hI hcl hDi hdep hc hg hf hbase hdeps
          have r13 : ρ (.tmp 13) = .pointer (some ⟨sp, 0, none⟩) := (hdeps 2 _ 13 (by kernel_rfl) rfl rfl)
          clear hbase hdeps
          have kk := cell_kept hI.below lp
          go_simp
          exact ⟨hI.keep _ (by decide) (by decide), rfl⟩
        · intro ρ W D hI hcl hDi hdep hc hg hf hbase hdeps
          have r3 := hbase 3 (by kernel_rfl)
          clear hbase hdeps
          go_simp
          exact ⟨hI.keep _ (by decide) (by decide), rfl⟩
        · intro ρ W D hI hcl hDi hdep hc hg hf hbase hdeps
          have r15 : ρ (.tmp 15) = .pointer (some ⟨w.heap.size, 0, none⟩) := (hdeps 4 _ 15 (by kernel_rfl) rfl rfl)
          clear hbase hdeps
          have kk := cell_kept hI.below ka0
          go_simp
          exact ⟨hI.keep _ (by decide) (by decide), rfl⟩
        · intro ρ W D hI hcl hDi hdep hc hg hf hbase hdeps
          have r16 : ρ (.tmp 16) = .int .i64 t1.head := (hdeps 5 _ 16 (by kernel_rfl) rfl rfl)
          clear hbase hdeps
          go_simp
          exact ⟨hI.keep _ (by decide) (by decide), rfl⟩
        · intro ρ W D hI hcl hDi hdep hc hg hf hbase hdeps
          have r14 : ρ (.tmp 14) = .map (some mb) := (hdeps 3 _ 14 (by kernel_rfl) rfl rfl)
          have r17 : ρ (.tmp 17) = .int .i64 (-1 - t1.head) := (hdeps 6 _ 17 (by kernel_rfl) rfl rfl)
          clear hbase hdeps
          have hlk := HLK.out W hI.below
          go_simp
          exact ⟨hI.keep _ (by decide) (by decide), rfl⟩
        · intro ρ W D hI hcl hDi hdep hc hg hf hbase hdeps
          have r18 : ρ (.tmp 18) = .tuple #[.agg #[.int .i64 u'.head, .slice A2 u'.args.length c2], .bool true] := (hdeps 7 _ 18 (by kernel_rfl) rfl rfl)
          clear hbase hdeps
          go_simp
          exact ⟨hI.keep _ (by decide) (by decide), rfl⟩
        · intro ρ W D hI hcl hDi hdep hc hg hf hbase hdeps
          have r10 : ρ (.tmp 10) = .tuple #[.agg #[.int .i64 u'.head, .slice A2 u'.args.length c2], .bool true] := (hdeps 8 _ 10 (by kernel_rfl) rfl rfl)
          clear hbase hdeps
          go_simp
          exact ⟨hI.keep _ (by decide) (by decide), rfl⟩
        · intro ρ W D hI hcl hDi hdep hc hg hf hbase hdeps
          have r10 : ρ (.tmp 10) = .tuple #[.agg #[.int .i64 u'.head, .slice A2 u'.args.length c2], .bool true] := (hdeps 8 _ 10 (by kernel_rfl) rfl rfl)
          clear hbase hdeps
          go_simp
          exact ⟨hI.keep _ (by decide) (by decide), rfl⟩
        · intro ρ W D hI hcl hDi hdep hc hg hf hbase hdeps
          clear hbase hdeps
          have hz := hI.size
          have h12 : D 12 = false := closed_no hcl hDi (o := _) rfl (by kernel_rfl)
          rw [hDi] at hz
          simp only [Bool.false_eq_true, if_false, Nat.add_zero] at hz
          have HI := Lib.hid hI
          have H11 := Lib.hid hDi
          have H12 := Lib.hid h12
          clear hI h12
          go_simp
          exact ⟨HI.out.alloc H11.out H12.out, rfl⟩
        · intro ρ W D hI hcl hDi hdep hc hg hf hbase hdeps
          have r5 : ρ (.tmp 5) = .pointer (some ⟨wr.heap.size, 0, none⟩) := (hdeps 11 _ 5 (by kernel_rfl) rfl rfl)
          have r19 : ρ (.tmp 19) = .agg #[.int .i64 u'.head, .slice A2 u'.args.length c2] := (hdeps 9 _ 19 (by kernel_rfl) rfl rfl)
          clear hbase hdeps
          have h11 := hdep 11 (by decide +kernel)
          have kk := hI.block h11
          rw [hDi] at kk
          have kc0 := cell_of_block kk (j := 0) (v := .int .i64 0) rfl
          have kc1 := cell_of_block kk (j := 1) (v := .slice none 0 0) rfl
          have kf0 := frozen_of_block kk 0
          have kf1 := frozen_of_block kk 1
          have HI := Lib.hid hI
          have H11 := Lib.hid h11
          clear hI h11 kk hDi
          go_simp
          exact ⟨HI.out.store H11.out, rfl⟩
      · intro us W1 hW1 hus
        have hu0 : us 0 = .pointer (some ⟨sp, 0, none⟩) := hus 0 _ (by decide) rfl rfl
        have hu1 : us 1 = .pointer (some ⟨sp, 0, none⟩) := hus 1 _ (by decide) rfl rfl
        have hu2 : us 2 = .pointer (some ⟨sp, 0, none⟩) := hus 2 _ (by decide) rfl rfl
        have hu3 : us 3 = .map (some mb) := hus 3 _ (by decide) rfl rfl
        have hu4 : us 4 = .pointer (some ⟨w.heap.size, 0, none⟩) := hus 4 _ (by decide) rfl rfl
        have hu5 : us 5 = .int .i64 t1.head := hus 5 _ (by decide) rfl rfl
        have hu6 : us 6 = .int .i64 (-1 - t1.head) := hus 6 _ (by decide) rfl rfl
        have hu7 : us 7 = .tuple #[.agg #[.int .i64 u'.head, .slice A2 u'.args.length c2], .bool true] := hus 7 _ (by decide) rfl rfl
        have hu8 : us 8 = .tuple #[.agg #[.int .i64 u'.head, .slice A2 u'.args.length c2], .bool true] := hus 8 _ (by decide) rfl rfl
        have hu9 : us 9 = .agg #[.int .i64 u'.head, .slice A2 u'.args.length c2] := hus 9 _ (by decide) rfl rfl
        have hu10 : us 10 = .bool true := hus 10 _ (by decide) rfl rfl
        have hu11 : us 11 = .pointer (some ⟨wr.heap.size, 0, none⟩) := hus 11 _ (by decide) rfl rfl
        clear hus
        simp only [List.drop_succ_cons, List.drop_zero, List.take_succ_cons, List.take_zero, fill, Act.put, List.setIfInBounds_toArray, List.set_cons_succ, List.set_cons_zero, hu0, hu1, hu2, hu3, hu4, hu5, hu6, hu7, hu8, hu9, hu10, hu11]
        clear hu0 hu1 hu2 hu3 hu4 hu5 hu6 hu7 hu8 hu9 hu10 hu11
        have hb1 := hW1.below
        have c5 : W1.heap[wr.heap.size]? = some (.cells #[.int .i64 u'.head, .slice A2 u'.args.length c2] 24 (0, 0)) := hW1.block rfl
        have h1w := (hb1.block w.heap.size (by omega)).trans H1.out
        have h2w := (hb1.block (w.heap.size + 1) hz1).trans H2.out
        have HB1 := Lib.hid hb1
        have H1W := Lib.hid h1w
        have H2W := Lib.hid h2w
        have HBW1 := Lib.hid (below_then HB.out (by omega) hb1)
        have hz5 : wr.heap.size < W1.heap.size := (Array.getElem?_eq_some_iff.1 c5).1
        have k50 := cell_of_block c5 (j := 0) (v := .int .i64 u'.head) rfl
        have k51 := cell_of_block c5 (j := 1) (v := .slice A2 u'.args.length c2) rfl
        have kd0 := cell_of_block h1w (j := 0) (v := .int .i64 t1.head) rfl
        have kd1 := cell_of_block h1w (j := 1) (v := .slice A1 t1.args.length c1) rfl
        have kdf0 := frozen_of_block h1w 0
        have kdf1 := frozen_of_block h1w 1
        have ke0 := cell_of_block h2w (j := 0) (v := x2) rfl
        have ke1 := cell_of_block h2w (j := 1) (v := y2) rfl
        have kef0 := frozen_of_block h2w 0
        have kef1 := frozen_of_block h2w 1
        clear hW1 hb1 c5 h1w h2w hwr ka0 ka1 kaf0 kaf1 kb0 kb1 kbf0 kbf1 lp
        go_wp2
        have hs5 : SameOn (fun k => k ≠ w.heap.size) W1 ((W1.setCell ⟨w.heap.size, 0, none⟩ (.int .i64 u'.head)).setCell ⟨w.heap.size, 1, none⟩ (.slice A2 u'.args.length c2)) := (SameOn.set _ ⟨w.heap.size, 0, none⟩ _ (by simp)).trans (SameOn.set _ ⟨w.heap.size, 1, none⟩ _ (by simp))
        have hkk := HG.out
        go_roundg (gk - 1)
        case rel =>
          refine ⟨k', u', .slice A2 u'.args.length c2, by omega, HWK.out, ?_, heap_setCell_at (heap_setCell_at H1W.out 0 (.int .i64 u'.head)) 1 (.slice A2 u'.args.length c2), (HBW1.out.setCell (p := ⟨w.heap.size, 0, none⟩) (by simp) _).setCell (p := ⟨w.heap.size, 1, none⟩) (by simp) _, x2, y2, ?_⟩
          · have h2 : IsF F W1 u' (.int .i64 u'.head) (.slice A2 u'.args.length c2) := HXS.out.same (S := fun k => k < w.heap.size) (.of_below HBW1.out (fun _ h _ => h)) HF.out
            exact h2.same hs5 (fun k hk => by have := HF.out k hk; omega)
          · exact (hs5.block _ (by have := HBW1.out.size; have := (Array.getElem?_eq_some_iff.1 H2W.out).1; omega) (by omega)).trans H2W.out
        case measure => omega
theorem at_calls (F : Nat → Prop) (sp mb n : Nat) (s : Sub) (D : Int → Option Value) (t u : T) (v : Value) (w : World) (hS : Solv F w sp mb n s D) (ht : VF F w t v) (hw : Walk s t u) :
    Calls Try.prog 30 #[.pointer (some ⟨sp, 0, none⟩), v] w (AtPost F u w) := by
  obtain ⟨x, y, rfl, ht⟩ := ht
  refine (at_calls' (fun b => F b ∧ b < w.heap.size) sp mb n s D t u _ w (fun _ h => h.2) ⟨hS.ptr, hS.map, hS.none_, fun k t e => ?_⟩ ⟨x, y, rfl, ht.bound⟩ hw).mono ?_
  · obtain ⟨x, y, e1, e2⟩ := hS.some_ k t e; exact ⟨x, y, e1, e2.bound⟩
  · rintro e w' ⟨v, rfl, h1, h2⟩; exact ⟨v, rfl, h1.mono fun _ h => h.1, h2⟩
end Go.Proofs.Ytokhnlhffnidmaa
