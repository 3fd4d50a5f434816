/- The law's awake: it answers true. -/
import Derived.Test.YtokhnlhffnidmaaRefK
namespace Go.Proofs.Ytokhnlhffnidmaa
open Go.RowKit Go.Shelf Elen

/-! ### the two runs -/
def tF : T := .mk 3 [.mk (-2) []]
def tA : T := .mk 4 [.mk (-1) [], tF]
def tB : T := .mk 4 [tF, .mk (-1) []]
def sF : Sub := Sub.set (fun _ => none) 0 tF
theorem full_tF {s : Sub} (h : s 1 = none) : Full s tF tF :=
  .node (by decide) rfl (fun i hi hi' => by
    have : i = 0 := by simp at hi; omega
    subst this
    exact .free (by decide) h)
theorem run_AB : Run (fun _ => none) [(tA, tB)] (some sF) := by
  refine .node (x := tA) (y := tB) ⟨tA, tB, .node (by decide), .node (by decide), rfl⟩ (by decide) rfl rfl ?_
  refine .bind (x := .mk (-1) []) (y := tF) (y' := tF) ⟨.mk (-1) [], tF, .free (by decide) rfl, .node (by decide), rfl⟩ (by decide) (by decide) (full_tF rfl) (by decide) ?_
  refine .node (x := tF) (y := tF) ⟨tF, tF, .node (by decide), .step (by decide) rfl (.node (by decide)), rfl⟩ (by decide) rfl rfl ?_
  exact .same (x := .mk (-2) []) (y := .mk (-2) []) ⟨.mk (-2) [], .mk (-2) [], .free (by decide) rfl, .free (by decide) rfl, rfl⟩ (by decide) rfl .nil
theorem run_F1 : Run (fun _ => none) [(tF, .mk (-2) [])] none :=
  .occurs (x := .mk (-2) []) (y := tF) (y' := tF) ⟨tF, .mk (-2) [], .node (by decide), .free (by decide) rfl, rfl⟩ (by decide) (by decide) (full_tF rfl) (by decide)
theorem answer_AB : allR [tA] [tB] (some sF) = ([(0, tF)], true, 0) := by
  have hw : wrongs [tA] [tB] = false := by decide
  have hv : vars sF = [0] := by decide
  have hf : fin sF (var 0) = tF := fin_eq (.bound (by decide) (u := tF) rfl (full_tF rfl))
  unfold allR
  rw [hw, if_neg (by decide)]
  unfold answer
  simp only
  rw [hv, ends_yes hf (by decide)]
  rfl
theorem answer_F1 : allR [tF] [.mk (-2) []] none = ([], false, 0) := by
  have hw : wrongs [tF] [.mk (-2) []] = false := by decide
  unfold allR
  rw [hw, if_neg (by decide)]
  rfl

/-! ### the calls -/
theorem var_calls (n : Int) (w : World) (h0 : 0 ≤ n) (h1 : n ≤ 1000) : Calls Try.prog 14 #[.int .i64 n] w fun e w' => e = .returned (.agg #[.int .i64 (-1 - n), .slice none 0 0]) ∧ Below w.heap.size w w' := by
  go_enter Try.func14, Try.ntmps14
  go_upto_region 1 with fail
  have hb : Below w.heap.size w (w.alloc (.cells #[.int .i64 0, .slice none 0 0] 24)) := (Below.refl _ _).alloc (Nat.le_refl _) _
  have g := World.alloc_heap_new w (.cells #[.int .i64 0, .slice none 0 0] 24)
  generalize (w.alloc (.cells #[.int .i64 0, .slice none 0 0] 24)) = W1 at *
  have k0 := cell_of_block g (j := 0) (v := .int .i64 0) rfl
  have k1 := cell_of_block g (j := 1) (v := .slice none 0 0) rfl
  have f0 := frozen_of_block g 0
  have f1 := frozen_of_block g 1
  have HB := Lib.hid hb
  have HG := Lib.hid g
  clear hb g
  go_wp2
  have s2 := heap_setCell_at (heap_setCell_at HG.out 0 (.int .i64 (-1 - n))) 1 (.slice none 0 0)
  have e0 := cell_of_block s2 (j := 0) (v := .int .i64 (-1 - n)) rfl
  have e1 := cell_of_block s2 (j := 1) (v := .slice none 0 0) rfl
  refine bodyPost_ret (v := .agg #[.int .i64 (-1 - n), .slice none 0 0]) (by simp [results, Try.results14, go_sem, e0, e1]) rfl ?_
  exact ⟨rfl, (HB.out.setCell (p := ⟨w.heap.size, 0, none⟩) (Nat.le_refl _) _).setCell (p := ⟨w.heap.size, 1, none⟩) (Nat.le_refl _) _⟩
theorem fun_calls (h : Int) (A : Option Addr) (n c : Nat) (w : World) : Calls Try.prog 13 #[.int .i64 h, .slice A n c] w fun e w' => e = .returned (.agg #[.int .i64 h, .slice A n c]) ∧ Below w.heap.size w w' := by
  go_enter Try.func13, Try.ntmps13
  go_upto_region 1 with fail
  have hb : Below w.heap.size w (w.alloc (.cells #[.int .i64 0, .slice none 0 0] 24)) := (Below.refl _ _).alloc (Nat.le_refl _) _
  have g := World.alloc_heap_new w (.cells #[.int .i64 0, .slice none 0 0] 24)
  generalize (w.alloc (.cells #[.int .i64 0, .slice none 0 0] 24)) = W1 at *
  have k0 := cell_of_block g (j := 0) (v := .int .i64 0) rfl
  have k1 := cell_of_block g (j := 1) (v := .slice none 0 0) rfl
  have f0 := frozen_of_block g 0
  have f1 := frozen_of_block g 1
  have HB := Lib.hid hb
  have HG := Lib.hid g
  clear hb g
  go_wp2
  have s2 := heap_setCell_at (heap_setCell_at HG.out 0 (.int .i64 h)) 1 (.slice A n c)
  have e0 := cell_of_block s2 (j := 0) (v := .int .i64 h) rfl
  have e1 := cell_of_block s2 (j := 1) (v := .slice A n c) rfl
  refine bodyPost_ret (v := .agg #[.int .i64 h, .slice A n c]) (by simp [results, Try.results13, go_sem, e0, e1]) rfl ?_
  exact ⟨rfl, (HB.out.setCell (p := ⟨w.heap.size, 0, none⟩) (Nat.le_refl _) _).setCell (p := ⟨w.heap.size, 1, none⟩) (Nat.le_refl _) _⟩

theorem row_two {F : Nat → Prop} {w : World} {t u : T} {x y x' y' : Value} (h : IsF F w t x y) (h' : IsF F w u x' y') (E : TypeId) : Row KT F (w.alloc (.cells #[x, y, x', y'] E)) [t, u] w.heap.size 0 := by
  have hb : Below w.heap.size w (w.alloc (.cells #[x, y, x', y'] E)) := (Below.refl _ _).alloc (Nat.le_refl _) _
  have e2 : (KT).sz = 2 := rfl
  intro i hi
  have : i = 0 ∨ i = 1 := by simp at hi; omega
  rcases this with rfl | rfl
  · refine ⟨[x, y], ⟨x, y, rfl, h.later hb⟩, fun j hj => ?_⟩
    have : j = 0 ∨ j = 1 := by simp at hj; omega
    rcases this with rfl | rfl
    · exact cell_new w _ E 0 rfl
    · exact cell_new w _ E 1 rfl
  · refine ⟨[x', y'], ⟨x', y', rfl, h'.later hb⟩, fun j hj => ?_⟩
    have : j = 0 ∨ j = 1 := by simp at hj; omega
    rcases this with rfl | rfl
    · exact cell_new w _ E 2 rfl
    · exact cell_new w _ E 3 rfl
theorem Row.sl2 {w : World} {t u : T} {b : Nat} (h : Row KT Any w [t, u] b 0) : Sl KT Any w [t, u] (.slice (some ⟨b, 0, none⟩) 2 2) :=
  ⟨_, 2, rfl, Nat.le_refl _, by have e : (KT).by_ = 32 := rfl; rw [e]; simp, fun _ => ⟨b, 0, rfl, trivial, h⟩⟩
theorem isF_var {w : World} (k : Int) (h : I64 k) : IsF Any w (.mk k []) (.int .i64 k) (.slice none 0 0) :=
  (Sl.nil KT Any w).term h

set_option maxRecDepth 100000 in
set_option maxHeartbeats 1000000 in
theorem awake_calls (w : World) : Calls Try.prog 8 #[] w fun e w' => e = .returned (.bool true) ∧ Below w.heap.size w w' := by
  have HV1 := Lib.hid (fun W => var_calls 1 W (by decide) (by decide))
  go_enter Try.func8, Try.ntmps8
  go_wp2_with fail
  refine (HV1.out _).mono ?_
  rintro e w1 ⟨rfl, hb1⟩
  have hrow : Row KT Any (w1.alloc (.cells #[.int .i64 (-2), .slice none 0 0] 24)) [.mk (-2) []] w1.heap.size 0 := row_of_block (K := KT) (F := Any) (w := w1) (x := .mk (-2) []) (ys := [.int .i64 (-2), .slice none 0 0]) ⟨_, _, rfl, isF_var (-2) (by unfold I64; omega)⟩ 24
  have hfs : Sl KT Any (w1.alloc (.cells #[.int .i64 (-2), .slice none 0 0] 24)) [.mk (-2) []] (.slice (some ⟨w1.heap.size, 0, none⟩) 1 1) :=
    ⟨_, 1, rfl, Nat.le_refl _, by have e : (KT).by_ = 32 := rfl; rw [e]; simp, fun _ => ⟨_, 0, rfl, trivial, hrow⟩⟩
  have hb2 : Below w.heap.size w (w1.alloc (.cells #[.int .i64 (-2), .slice none 0 0] 24)) := hb1.alloc (hb1.size) _
  have hF : IsF Any (w1.alloc (.cells #[.int .i64 (-2), .slice none 0 0] 24)) tF (.int .i64 3) (.slice (some ⟨w1.heap.size, 0, none⟩) 1 1) := hfs.term (by unfold I64; omega)
  have HF0 := Lib.hid hF
  have HB2 := Lib.hid hb2
  clear hrow hfs hb1 hb2 hF
  go_wp2_with fail
  refine (fun_calls 3 _ 1 1 _).mono ?_
  rintro e w2 ⟨rfl, hb3⟩
  have hb4 : Below w2.heap.size w2 (w2.alloc (.cells #[.int .i64 3, .slice (some ⟨w1.heap.size, 0, none⟩) 1 1] 24)) := (Below.refl _ _).alloc (Nat.le_refl _) _
  have HF2 := Lib.hid ((HF0.out.later hb3).later hb4)
  have g4 := World.alloc_heap_new w2 (.cells #[.int .i64 3, .slice (some ⟨w1.heap.size, 0, none⟩) 1 1] 24)
  have hB4 := (HB2.out.trans (hb3.mono (by have := HB2.out.size; exact this))).trans (hb4.mono (by have h1 := HB2.out.size; have h2 := hb3.size; omega))
  have HB4 := Lib.hid hB4
  have HG4 := Lib.hid g4
  clear hb3 hb4 g4 hB4
  go_upto_region 2 with fail
  have hg4 := HG4.out
  have hB4 := HB4.out
  have hF2 := HF2.out
  clear HG4 HB4 HF2 HF0
  generalize (w2.alloc (.cells #[.int .i64 3, .slice (some ⟨w1.heap.size, 0, none⟩) 1 1] 24)) = W2 at *
  generalize hfb : w2.heap.size = fb at *
  generalize hfa : w1.heap.size = fa at *
  have kf0 := cell_of_block hg4 (j := 0) (v := .int .i64 3) rfl
  have kf1 := cell_of_block hg4 (j := 1) (v := .slice (some ⟨fa, 0, none⟩) 1 1) rfl
  have HB4 := Lib.hid hB4
  have HF2 := Lib.hid hF2
  have HV0 := Lib.hid (fun W => var_calls 0 W (by decide) (by decide))
  clear hg4 hB4 hF2 hfb hfa
  refine wp_mix 15 52 (fun ix W u => match ix with | 0 => u = .agg #[.int .i64 (-1), .slice none 0 0] | 1 => u = .agg #[.int .i64 3, .slice (some ⟨fa, 0, none⟩) 1 1] | 2 => ∃ b, u = .slice (some ⟨b, 0, none⟩) 2 2 ∧ Sl KT Any W [.mk (-1) [], tF] u | 3 => VF Any W tA u | 4 => u = .agg #[.int .i64 3, .slice (some ⟨fa, 0, none⟩) 1 1] | 5 => u = .agg #[.int .i64 (-1), .slice none 0 0] | 6 => ∃ b, u = .slice (some ⟨b, 0, none⟩) 2 2 ∧ Sl KT Any W [tF, .mk (-1) []] u | 7 => VF Any W tB u | 8 => ∃ v, u = .tuple #[v, .bool true, .int .i64 0] ∧ Sl KB Any W [(0, tF)] v | 9 => ∃ v, u = .tuple #[v, .bool true, .int .i64 0] ∧ Sl KB Any W [(0, tF)] v | 10 => Sl KB Any W [(0, tF)] u | 11 => u = .bool true | 12 => u = .int .i64 0 | 13 => Sl KB Any W [(0, tF)] u | 14 => u = .bool true | _ => True) (by kernel_rfl) rfl (by decide +kernel) (fun ix W W' u hb h => by match ix, h with | 0, h => exact h | 1, h => exact h | 2, h => exact (by obtain ⟨b, e, hr⟩ := h; exact ⟨b, e, hr.later hb⟩) | 3, h => exact h.later hb | 4, h => exact h | 5, h => exact h | 6, h => exact (by obtain ⟨b, e, hr⟩ := h; exact ⟨b, e, hr.later hb⟩) | 7, h => exact h.later hb | 8, h => exact (by obtain ⟨v, e, hr⟩ := h; exact ⟨v, e, hr.later hb⟩) | 9, h => exact (by obtain ⟨v, e, hr⟩ := h; exact ⟨v, e, hr.later hb⟩) | 10, h => exact h.later hb | 11, h => exact h | 12, h => exact h | 13, h => exact h.later hb | 14, h => exact h | _ + 15, h => exact h) ?_ ?_
  · refine goes_cons rfl ?_ (goes_cons rfl ?_ (goes_cons rfl ?_ (goes_cons rfl ?_ (goes_cons rfl ?_ (goes_cons rfl ?_ (goes_cons rfl ?_ (goes_cons rfl ?_ (goes_cons rfl ?_ (goes_cons rfl ?_ (goes_cons rfl ?_ (goes_cons rfl ?_ (goes_cons rfl ?_ (goes_cons rfl ?_ (goes_cons rfl ?_ (goes_nil)))))))))))))))
    · intro ρ W hW hc hg hf hbase hdeps
      obtain ⟨hk, -⟩ := bcell hW
      clear hbase hdeps
      have kk0 := cell_kept hW kf0
      have kk1 := cell_kept hW kf1
      go_simp
      exact (HV0.out W).mono (by rintro e w1 ⟨rfl, hb⟩; exact ⟨_, rfl, hb, rfl⟩)
    · intro ρ W hW hc hg hf hbase hdeps
      obtain ⟨hk, -⟩ := bcell hW
      have r1 := hbase 1 (by kernel_rfl)
      clear hbase hdeps
      have kk0 := cell_kept hW kf0
      have kk1 := cell_kept hW kf1
      go_simp
      exact ⟨Below.refl _ _, rfl⟩
    · intro ρ W hW hc hg hf hbase hdeps
      obtain ⟨hk, -⟩ := bcell hW
      have r12 : ρ (.tmp 12) = .agg #[.int .i64 (-1), .slice none 0 0] := hdeps 0 _ 12 (by kernel_rfl) rfl rfl
      have r13 : ρ (.tmp 13) = .agg #[.int .i64 3, .slice (some ⟨fa, 0, none⟩) 1 1] := hdeps 1 _ 13 (by kernel_rfl) rfl rfl
      clear hbase hdeps
      have kk0 := cell_kept hW kf0
      have kk1 := cell_kept hW kf1
      go_simp
      exact ⟨(Below.refl _ _).alloc (Nat.le_refl _) _, ⟨_, rfl⟩, (row_two (isF_var (-1) (by unfold I64; omega)) (HF2.out.later hW) _).sl2⟩
    · intro ρ W hW hc hg hf hbase hdeps
      obtain ⟨hk, -⟩ := bcell hW
      have r14 : (fun u => ∃ b, u = .slice (some ⟨b, 0, none⟩) 2 2 ∧ Sl KT Any W [.mk (-1) [], tF] u) (ρ (.tmp 14)) := hdeps 2 _ 14 (by kernel_rfl) rfl rfl
      dsimp only at r14
      obtain ⟨u14, e14⟩ : ∃ u, ρ (.tmp 14) = u := ⟨_, rfl⟩
      rw [e14] at r14
      clear hbase hdeps
      have kk0 := cell_kept hW kf0
      have kk1 := cell_kept hW kf1
      obtain ⟨b14, rfl, hs14⟩ := r14
      go_simp
      exact (fun_calls 4 _ 2 2 W).mono (by rintro e w1 ⟨rfl, hb⟩; exact ⟨_, rfl, hb, _, _, rfl, (hs14.later hb).term (by unfold I64; omega)⟩)
    · intro ρ W hW hc hg hf hbase hdeps
      obtain ⟨hk, -⟩ := bcell hW
      have r1 := hbase 1 (by kernel_rfl)
      clear hbase hdeps
      have kk0 := cell_kept hW kf0
      have kk1 := cell_kept hW kf1
      go_simp
      exact ⟨Below.refl _ _, rfl⟩
    · intro ρ W hW hc hg hf hbase hdeps
      obtain ⟨hk, -⟩ := bcell hW
      clear hbase hdeps
      have kk0 := cell_kept hW kf0
      have kk1 := cell_kept hW kf1
      go_simp
      exact (HV0.out W).mono (by rintro e w1 ⟨rfl, hb⟩; exact ⟨_, rfl, hb, rfl⟩)
    · intro ρ W hW hc hg hf hbase hdeps
      obtain ⟨hk, -⟩ := bcell hW
      have r16 : ρ (.tmp 16) = .agg #[.int .i64 3, .slice (some ⟨fa, 0, none⟩) 1 1] := hdeps 4 _ 16 (by kernel_rfl) rfl rfl
      have r17 : ρ (.tmp 17) = .agg #[.int .i64 (-1), .slice none 0 0] := hdeps 5 _ 17 (by kernel_rfl) rfl rfl
      clear hbase hdeps
      have kk0 := cell_kept hW kf0
      have kk1 := cell_kept hW kf1
      go_simp
      exact ⟨(Below.refl _ _).alloc (Nat.le_refl _) _, ⟨_, rfl⟩, (row_two (HF2.out.later hW) (isF_var (-1) (by unfold I64; omega)) _).sl2⟩
    · intro ρ W hW hc hg hf hbase hdeps
      obtain ⟨hk, -⟩ := bcell hW
      have r18 : (fun u => ∃ b, u = .slice (some ⟨b, 0, none⟩) 2 2 ∧ Sl KT Any W [tF, .mk (-1) []] u) (ρ (.tmp 18)) := hdeps 6 _ 18 (by kernel_rfl) rfl rfl
      dsimp only at r18
      obtain ⟨u18, e18⟩ : ∃ u, ρ (.tmp 18) = u := ⟨_, rfl⟩
      rw [e18] at r18
      clear hbase hdeps
      have kk0 := cell_kept hW kf0
      have kk1 := cell_kept hW kf1
      obtain ⟨b18, rfl, hs18⟩ := r18
      go_simp
      exact (fun_calls 4 _ 2 2 W).mono (by rintro e w1 ⟨rfl, hb⟩; exact ⟨_, rfl, hb, _, _, rfl, (hs18.later hb).term (by unfold I64; omega)⟩)
    · intro ρ W hW hc hg hf hbase hdeps
      obtain ⟨hk, -⟩ := bcell hW
      have r15 : (fun u => VF Any W tA u) (ρ (.tmp 15)) := hdeps 3 _ 15 (by kernel_rfl) rfl rfl
      dsimp only at r15
      obtain ⟨u15, e15⟩ : ∃ u, ρ (.tmp 15) = u := ⟨_, rfl⟩
      rw [e15] at r15
      have r19 : (fun u => VF Any W tB u) (ρ (.tmp 19)) := hdeps 7 _ 19 (by kernel_rfl) rfl rfl
      dsimp only at r19
      obtain ⟨u19, e19⟩ : ∃ u, ρ (.tmp 19) = u := ⟨_, rfl⟩
      rw [e19] at r19
      clear hbase hdeps
      have kk0 := cell_kept hW kf0
      have kk1 := cell_kept hW kf1
      go_simp
      exact (umgu_calls tA tB _ _ W r15 r19 (by decide) (some sF) (fun _ => run_AB)).mono (by rintro e w1 ⟨v, rfl, hs, hb⟩; rw [answer_AB] at hs ⊢; exact ⟨_, rfl, hb, v, rfl, hs.mono fun _ _ => trivial⟩)
    · intro ρ W hW hc hg hf hbase hdeps
      obtain ⟨hk, -⟩ := bcell hW
      have r20 : (fun u => ∃ v, u = .tuple #[v, .bool true, .int .i64 0] ∧ Sl KB Any W [(0, tF)] v) (ρ (.tmp 20)) := hdeps 8 _ 20 (by kernel_rfl) rfl rfl
      dsimp only at r20
      obtain ⟨u20, e20⟩ : ∃ u, ρ (.tmp 20) = u := ⟨_, rfl⟩
      rw [e20] at r20
      clear hbase hdeps
      have kk0 := cell_kept hW kf0
      have kk1 := cell_kept hW kf1
      go_simp
      exact ⟨Below.refl _ _, r20⟩
    · intro ρ W hW hc hg hf hbase hdeps
      obtain ⟨hk, -⟩ := bcell hW
      have r11 : (fun u => ∃ v, u = .tuple #[v, .bool true, .int .i64 0] ∧ Sl KB Any W [(0, tF)] v) (ρ (.tmp 11)) := hdeps 9 _ 11 (by kernel_rfl) rfl rfl
      dsimp only at r11
      obtain ⟨u11, e11⟩ : ∃ u, ρ (.tmp 11) = u := ⟨_, rfl⟩
      rw [e11] at r11
      clear hbase hdeps
      have kk0 := cell_kept hW kf0
      have kk1 := cell_kept hW kf1
      obtain ⟨v11, rfl, hs11⟩ := r11
      go_simp
      exact ⟨Below.refl _ _, hs11⟩
    · intro ρ W hW hc hg hf hbase hdeps
      obtain ⟨hk, -⟩ := bcell hW
      have r11 : (fun u => ∃ v, u = .tuple #[v, .bool true, .int .i64 0] ∧ Sl KB Any W [(0, tF)] v) (ρ (.tmp 11)) := hdeps 9 _ 11 (by kernel_rfl) rfl rfl
      dsimp only at r11
      obtain ⟨u11, e11⟩ : ∃ u, ρ (.tmp 11) = u := ⟨_, rfl⟩
      rw [e11] at r11
      clear hbase hdeps
      have kk0 := cell_kept hW kf0
      have kk1 := cell_kept hW kf1
      obtain ⟨v11, rfl, hs11⟩ := r11
      go_simp
      exact ⟨Below.refl _ _, rfl⟩
    · intro ρ W hW hc hg hf hbase hdeps
      obtain ⟨hk, -⟩ := bcell hW
      have r11 : (fun u => ∃ v, u = .tuple #[v, .bool true, .int .i64 0] ∧ Sl KB Any W [(0, tF)] v) (ρ (.tmp 11)) := hdeps 9 _ 11 (by kernel_rfl) rfl rfl
      dsimp only at r11
      obtain ⟨u11, e11⟩ : ∃ u, ρ (.tmp 11) = u := ⟨_, rfl⟩
      rw [e11] at r11
      clear hbase hdeps
      have kk0 := cell_kept hW kf0
      have kk1 := cell_kept hW kf1
      obtain ⟨v11, rfl, hs11⟩ := r11
      go_simp
      exact ⟨Below.refl _ _, rfl⟩
    · intro ρ W hW hc hg hf hbase hdeps
      obtain ⟨hk, -⟩ := bcell hW
      have r21 : (fun u => Sl KB Any W [(0, tF)] u) (ρ (.tmp 21)) := hdeps 10 _ 21 (by kernel_rfl) rfl rfl
      dsimp only at r21
      obtain ⟨u21, e21⟩ : ∃ u, ρ (.tmp 21) = u := ⟨_, rfl⟩
      rw [e21] at r21
      clear hbase hdeps
      have kk0 := cell_kept hW kf0
      have kk1 := cell_kept hW kf1
      go_simp
      exact ⟨Below.refl _ _, r21⟩
    · intro ρ W hW hc hg hf hbase hdeps
      obtain ⟨hk, -⟩ := bcell hW
      have r22 : ρ (.tmp 22) = .bool true := hdeps 11 _ 22 (by kernel_rfl) rfl rfl
      clear hbase hdeps
      have kk0 := cell_kept hW kf0
      have kk1 := cell_kept hW kf1
      go_simp
      exact ⟨Below.refl _ _, rfl⟩
  · intro us W3 hW3 hus
    have hu0 : us 0 = .agg #[.int .i64 (-1), .slice none 0 0] := hus 0 (by decide)
    have hu1 : us 1 = .agg #[.int .i64 3, .slice (some ⟨fa, 0, none⟩) 1 1] := hus 1 (by decide)
    have hu2 : (fun u W => ∃ b, u = .slice (some ⟨b, 0, none⟩) 2 2 ∧ Sl KT Any W [.mk (-1) [], tF] u) (us 2) W3 := hus 2 (by decide)
    dsimp only at hu2
    have hu3 : (fun u W => VF Any W tA u) (us 3) W3 := hus 3 (by decide)
    dsimp only at hu3
    have hu4 : us 4 = .agg #[.int .i64 3, .slice (some ⟨fa, 0, none⟩) 1 1] := hus 4 (by decide)
    have hu5 : us 5 = .agg #[.int .i64 (-1), .slice none 0 0] := hus 5 (by decide)
    have hu6 : (fun u W => ∃ b, u = .slice (some ⟨b, 0, none⟩) 2 2 ∧ Sl KT Any W [tF, .mk (-1) []] u) (us 6) W3 := hus 6 (by decide)
    dsimp only at hu6
    have hu7 : (fun u W => VF Any W tB u) (us 7) W3 := hus 7 (by decide)
    dsimp only at hu7
    have hu8 : (fun u W => ∃ v, u = .tuple #[v, .bool true, .int .i64 0] ∧ Sl KB Any W [(0, tF)] v) (us 8) W3 := hus 8 (by decide)
    dsimp only at hu8
    have hu9 : (fun u W => ∃ v, u = .tuple #[v, .bool true, .int .i64 0] ∧ Sl KB Any W [(0, tF)] v) (us 9) W3 := hus 9 (by decide)
    dsimp only at hu9
    have hu10 : (fun u W => Sl KB Any W [(0, tF)] u) (us 10) W3 := hus 10 (by decide)
    dsimp only at hu10
    have hu11 : us 11 = .bool true := hus 11 (by decide)
    have hu12 : us 12 = .int .i64 0 := hus 12 (by decide)
    have hu13 : (fun u W => Sl KB Any W [(0, tF)] u) (us 13) W3 := hus 13 (by decide)
    dsimp only at hu13
    have hu14 : us 14 = .bool true := hus 14 (by decide)
    clear hus
    simp only [List.drop_succ_cons, List.drop_zero, List.take_succ_cons, List.take_zero, fill, Act.put, List.setIfInBounds_toArray, List.set_cons_succ, List.set_cons_zero, hu0, hu1, hu4, hu5, hu11, hu12, hu14]
    clear hu0 hu1 hu4 hu5 hu11 hu12 hu14
    generalize us 2 = u2 at *
    generalize us 3 = u3 at *
    generalize us 6 = u6 at *
    generalize us 7 = u7 at *
    generalize us 8 = u8 at *
    generalize us 9 = u9 at *
    generalize us 10 = u10 at *
    generalize us 13 = u13 at *
    have HW3 := Lib.hid hW3
    have H13 := Lib.hid hu13
    clear hW3 hu2 hu3 hu6 hu7 hu8 hu9 hu10 hu13
    have kg0 := cell_kept HW3.out kf0
    have kg1 := cell_kept HW3.out kf1
    clear kf0 kf1
    go_upto_region 3 with fail
    have HF3 := Lib.hid (HF2.out.later HW3.out)
    have HV3 := Lib.hid (fun W => var_calls 1 W (by decide) (by decide))
    refine wp_mix 9 52 (fun ix _ u => match ix with | 0 => u = .agg #[.int .i64 3, .slice (some ⟨fa, 0, none⟩) 1 1] | 1 => u = .agg #[.int .i64 (-2), .slice none 0 0] | 2 => ∃ v, u = .tuple #[v, .bool false, .int .i64 0] | 3 => ∃ v, u = .tuple #[v, .bool false, .int .i64 0] | 4 => ∃ c : Value, u = c | 5 => u = .bool false | 6 => u = .int .i64 0 | 7 => ∃ c : Value, u = c | 8 => u = .bool false | _ => True) (by kernel_rfl) rfl (by decide +kernel) (fun ix W W' u _ h => h) ?_ ?_
    · refine goes_cons rfl ?_ (goes_cons rfl ?_ (goes_cons rfl ?_ (goes_cons rfl ?_ (goes_cons rfl ?_ (goes_cons rfl ?_ (goes_cons rfl ?_ (goes_cons rfl ?_ (goes_cons rfl ?_ (goes_nil)))))))))
      · intro ρ W hW hc hg hf hbase hdeps
        obtain ⟨hk, -⟩ := bcell hW
        have r1 := hbase 1 (by kernel_rfl)
        clear hbase hdeps
        have kk0 := cell_kept hW kg0
        have kk1 := cell_kept hW kg1
        go_simp
        exact ⟨Below.refl _ _, rfl⟩
      · intro ρ W hW hc hg hf hbase hdeps
        obtain ⟨hk, -⟩ := bcell hW
        clear hbase hdeps
        have kk0 := cell_kept hW kg0
        have kk1 := cell_kept hW kg1
        go_simp
        exact (HV3.out W).mono (by rintro e w1 ⟨rfl, hb⟩; exact ⟨_, rfl, hb, rfl⟩)
      · intro ρ W hW hc hg hf hbase hdeps
        obtain ⟨hk, -⟩ := bcell hW
        have r25 : ρ (.tmp 25) = .agg #[.int .i64 3, .slice (some ⟨fa, 0, none⟩) 1 1] := hdeps 0 _ 25 (by kernel_rfl) rfl rfl
        have r26 : ρ (.tmp 26) = .agg #[.int .i64 (-2), .slice none 0 0] := hdeps 1 _ 26 (by kernel_rfl) rfl rfl
        clear hbase hdeps
        have kk0 := cell_kept hW kg0
        have kk1 := cell_kept hW kg1
        go_simp
        exact (umgu_calls tF (.mk (-2) []) _ _ W ⟨_, _, rfl, HF3.out.later hW⟩ ⟨_, _, rfl, isF_var (-2) (by unfold I64; omega)⟩ (by decide) none (fun _ => run_F1)).mono (by rintro e w1 ⟨v, rfl, hs, hb⟩; rw [answer_F1] at hs ⊢; exact ⟨_, rfl, hb, v, rfl⟩)
      · intro ρ W hW hc hg hf hbase hdeps
        obtain ⟨hk, -⟩ := bcell hW
        have r27 : (fun u => ∃ v, u = .tuple #[v, .bool false, .int .i64 0]) (ρ (.tmp 27)) := hdeps 2 _ 27 (by kernel_rfl) rfl rfl
        dsimp only at r27
        obtain ⟨u27, e27⟩ : ∃ u, ρ (.tmp 27) = u := ⟨_, rfl⟩
        rw [e27] at r27
        clear hbase hdeps
        have kk0 := cell_kept hW kg0
        have kk1 := cell_kept hW kg1
        go_simp
        exact ⟨Below.refl _ _, r27⟩
      · intro ρ W hW hc hg hf hbase hdeps
        obtain ⟨hk, -⟩ := bcell hW
        have r24 : (fun u => ∃ v, u = .tuple #[v, .bool false, .int .i64 0]) (ρ (.tmp 24)) := hdeps 3 _ 24 (by kernel_rfl) rfl rfl
        dsimp only at r24
        obtain ⟨u24, e24⟩ : ∃ u, ρ (.tmp 24) = u := ⟨_, rfl⟩
        rw [e24] at r24
        clear hbase hdeps
        have kk0 := cell_kept hW kg0
        have kk1 := cell_kept hW kg1
        obtain ⟨v24, rfl⟩ := r24
        go_simp
        exact Below.refl _ _
      · intro ρ W hW hc hg hf hbase hdeps
        obtain ⟨hk, -⟩ := bcell hW
        have r24 : (fun u => ∃ v, u = .tuple #[v, .bool false, .int .i64 0]) (ρ (.tmp 24)) := hdeps 3 _ 24 (by kernel_rfl) rfl rfl
        dsimp only at r24
        obtain ⟨u24, e24⟩ : ∃ u, ρ (.tmp 24) = u := ⟨_, rfl⟩
        rw [e24] at r24
        clear hbase hdeps
        have kk0 := cell_kept hW kg0
        have kk1 := cell_kept hW kg1
        obtain ⟨v24, rfl⟩ := r24
        go_simp
        exact ⟨Below.refl _ _, rfl⟩
      · intro ρ W hW hc hg hf hbase hdeps
        obtain ⟨hk, -⟩ := bcell hW
        have r24 : (fun u => ∃ v, u = .tuple #[v, .bool false, .int .i64 0]) (ρ (.tmp 24)) := hdeps 3 _ 24 (by kernel_rfl) rfl rfl
        dsimp only at r24
        obtain ⟨u24, e24⟩ : ∃ u, ρ (.tmp 24) = u := ⟨_, rfl⟩
        rw [e24] at r24
        clear hbase hdeps
        have kk0 := cell_kept hW kg0
        have kk1 := cell_kept hW kg1
        obtain ⟨v24, rfl⟩ := r24
        go_simp
        exact ⟨Below.refl _ _, rfl⟩
      · intro ρ W hW hc hg hf hbase hdeps
        obtain ⟨hk, -⟩ := bcell hW
        have r28 : (fun u => ∃ c : Value, u = c) (ρ (.tmp 28)) := hdeps 4 _ 28 (by kernel_rfl) rfl rfl
        dsimp only at r28
        obtain ⟨u28, e28⟩ : ∃ u, ρ (.tmp 28) = u := ⟨_, rfl⟩
        rw [e28] at r28
        clear hbase hdeps
        have kk0 := cell_kept hW kg0
        have kk1 := cell_kept hW kg1
        go_simp
        exact Below.refl _ _
      · intro ρ W hW hc hg hf hbase hdeps
        obtain ⟨hk, -⟩ := bcell hW
        have r29 : ρ (.tmp 29) = .bool false := hdeps 5 _ 29 (by kernel_rfl) rfl rfl
        clear hbase hdeps
        have kk0 := cell_kept hW kg0
        have kk1 := cell_kept hW kg1
        go_simp
        exact ⟨Below.refl _ _, rfl⟩
    · intro us W4 hW4 hus
      have hu0 : us 0 = .agg #[.int .i64 3, .slice (some ⟨fa, 0, none⟩) 1 1] := hus 0 (by decide)
      have hu1 : us 1 = .agg #[.int .i64 (-2), .slice none 0 0] := hus 1 (by decide)
      have hu2 : (fun u W => ∃ v, u = .tuple #[v, .bool false, .int .i64 0]) (us 2) W4 := hus 2 (by decide)
      dsimp only at hu2
      have hu3 : (fun u W => ∃ v, u = .tuple #[v, .bool false, .int .i64 0]) (us 3) W4 := hus 3 (by decide)
      dsimp only at hu3
      have hu4 : (fun u W => ∃ c : Value, u = c) (us 4) W4 := hus 4 (by decide)
      dsimp only at hu4
      have hu5 : us 5 = .bool false := hus 5 (by decide)
      have hu6 : us 6 = .int .i64 0 := hus 6 (by decide)
      have hu7 : (fun u W => ∃ c : Value, u = c) (us 7) W4 := hus 7 (by decide)
      dsimp only at hu7
      have hu8 : us 8 = .bool false := hus 8 (by decide)
      clear hus
      simp only [List.drop_succ_cons, List.drop_zero, List.take_succ_cons, List.take_zero, fill, Act.put, List.setIfInBounds_toArray, List.set_cons_succ, List.set_cons_zero, hu0, hu1, hu5, hu6, hu8]
      clear hu0 hu1 hu5 hu6 hu8
      generalize us 2 = u2 at *
      generalize us 3 = u3 at *
      generalize us 4 = u4 at *
      generalize us 7 = u7 at *
      have HW4 := Lib.hid hW4
      clear hW4 hu2 hu3 hu4 hu7
      have kh0 := cell_kept HW4.out kg0
      have kh1 := cell_kept HW4.out kg1
      clear kg0 kg1
      have hs13 := H13.out.later HW4.out
      obtain ⟨A13, c13, rfl, -, -⟩ := hs13.shape
      have hb5 : Below W4.heap.size W4 (W4.alloc (.cells #[.int .i64 0, .int .i64 3, .slice (some ⟨fa, 0, none⟩) 1 1] 39)) := (Below.refl _ _).alloc (Nat.le_refl _) _
      have hF4 := (HF3.out.later HW4.out)
      have hrow : Row KB Any (W4.alloc (.cells #[.int .i64 0, .int .i64 3, .slice (some ⟨fa, 0, none⟩) 1 1] 39)) [(0, tF)] W4.heap.size 0 := row_of_block (K := KB) (F := Any) (w := W4) (x := (0, tF)) (ys := [.int .i64 0, .int .i64 3, .slice (some ⟨fa, 0, none⟩) 1 1]) ⟨_, _, rfl, hF4⟩ 39
      have hvb : Sl KB Any (W4.alloc (.cells #[.int .i64 0, .int .i64 3, .slice (some ⟨fa, 0, none⟩) 1 1] 39)) [(0, tF)] (.slice (some ⟨W4.heap.size, 0, none⟩) 1 1) :=
        ⟨_, 1, rfl, Nat.le_refl _, by have e : (KB).by_ = 40 := rfl; rw [e]; simp, fun _ => ⟨_, 0, rfl, trivial, hrow⟩⟩
      have hsame := bsame_calls [(0, tF)] _ _ _ (hs13.later hb5) hvb (fun p hp => by
        rw [List.mem_singleton] at hp
        subst hp
        decide)
      have HSAME := Lib.hid hsame
      have HB5 := Lib.hid hb5
      clear hs13 hb5 hF4 hrow hvb hsame
      go_wp2_with fail
      refine HSAME.out.mono ?_
      rintro e w5 ⟨rfl, hb6⟩
      have HB6 := Lib.hid hb6
      clear hb6 kh0 kh1
      go_wp2
      go_ret
      refine ⟨rfl, ?_⟩
      have z3 := HB4.out.size
      have z4 := HW3.out.size
      have z5 := HW4.out.size
      have z6 := HB5.out.size
      exact HB4.out.trans ((HW3.out.trans ((HW4.out.trans ((HB5.out.trans (HB6.out.mono z6)).mono z5)).mono z4)).mono z3)
end Go.Proofs.Ytokhnlhffnidmaa
