/- The solver's end. -/
import Derived.Test.YtokhnlhffnidmaaUniI
import Derived.Test.YtokhnlhffnidmaaUniG
import Derived.Test.YtokhnlhffnidmaaSrt
import Derived.Test.YtokhnlhffnidmaaPlainH
namespace Go.Proofs.Ytokhnlhffnidmaa
open Go.RowKit Go.Shelf Elen

/-- a variable and what it stands for -/
def KB : Kind (Nat × T) where
  sz := 3
  by_ := 40
  pos := by decide
  bpos := by decide
  R F w p vs := ∃ x y, vs = [.int .i64 (p.1 : Int), x, y] ∧ IsF F w p.2 x y
  len h := by obtain ⟨x, y, rfl, _⟩ := h; rfl
  one h := by
    obtain ⟨x, y, rfl, h⟩ := h
    intro u hu
    simp only [List.mem_cons, List.not_mem_nil, or_false] at hu
    rcases hu with rfl | rfl | rfl
    · rfl
    · exact h.cells.1
    · exact h.cells.2
  mono hF h := by obtain ⟨x, y, e, h⟩ := h; exact ⟨x, y, e, h.mono hF⟩
  bound h := by obtain ⟨x, y, e, h⟩ := h; exact ⟨x, y, e, h.bound⟩
  move hm h := by obtain ⟨x, y, e, h⟩ := h; exact ⟨x, y, e, h.move hm⟩
theorem Try.infoB : (Try.prog.info? 39).map (fun i => (i.zero, i.size, i.bytes)) = some (some (.agg #[.int .i64 0, .int .i64 0, .slice none 0 0]), 3, 40) := by kernel_rfl

theorem Solv.keys {F : Nat → Prop} {w : World} {sp mb n : Nat} {s : Sub} {D : Int → Option Value} (h : Solv F w sp mb n s D) : keysOf D = vars s := by
  unfold keysOf vars
  congr 1
  funext v
  cases e : s (v : Int) with
  | none => rw [h.none_ _ e]; rfl
  | some u => obtain ⟨x, y, hx, _⟩ := h.some_ _ _ e; rw [hx]; rfl
theorem Solv.low {F : Nat → Prop} {w : World} {sp mb n : Nat} {s : Sub} {D : Int → Option Value} (h : Solv F w sp mb n s D) (hl : ∀ k u, s k = some u → 0 ≤ k ∧ k < 256) : ∀ k x, D k = some x → 0 ≤ k ∧ k < 256 := fun k x e => by
  cases e1 : s k with
  | none => rw [h.none_ _ e1] at e; cases e
  | some u => exact hl _ _ e1
/-- what an answer's list is in memory -/
def EndPost (l : List (Nat × T)) (c : Int) (w : World) (e : Ending) (w' : World) : Prop :=
  ∃ v, e = .returned (.tuple #[v, .int .i64 c]) ∧ Sl KB (w.heap.size ≤ ·) w' l v ∧ Below w.heap.size w w'

set_option maxRecDepth 100000 in
set_option maxHeartbeats 1000000 in
theorem end_calls (U : List T) (s : Sub) (hU : Cl U s) (F : Nat → Prop) (sp mb nn : Nat) (D : Int → Option Value) (w : World) (hS : Solv F w sp mb nn s D) (hF : ∀ k, F k → k < w.heap.size) (hT : ∀ v u, s (v : Nat) = some u → ∃ t', Full s (var v) t') :
    Calls Try.prog 20 #[.pointer (some ⟨sp, 0, none⟩)] w (EndPost (ends s (vars s) []).1 (ends s (vars s) []).2 w) := by
  have hlow : ∀ k u, s k = some u → 0 ≤ k ∧ k < 256 := fun k u e => (hU.vals _ _ e).2
  have hsp := hS.ptr
  have hspl : sp < w.heap.size := World.block_lt_of_cell? w _ hsp
  have hmbl := hS.map.lt
  have hbA : Below w.heap.size w (w.alloc (.cells #[.map none] 76)) := (Below.refl _ _).alloc (Nat.le_refl _) _
  have gA := World.alloc_heap_new w (.cells #[.map none] 76)
  have hzA : (w.alloc (.cells #[.map none] 76)).heap.size = w.heap.size + 1 := by simp
  have HS := Lib.hid hS
  have HF := Lib.hid hF
  have HT := Lib.hid hT
  have HLOW := Lib.hid hlow
  have HBA := Lib.hid hbA
  have HGA := Lib.hid gA
  have HZA := Lib.hid hzA
  clear hS hF hT hlow hbA gA hzA
  go_enter Try.func20, Try.ntmps20
  go_upto_region 3 with fail
  have hbA := HBA.out
  have gA := HGA.out
  have hzA := HZA.out
  clear HBA HGA HZA
  generalize (w.alloc (.cells #[.map none] 76)) = W1 at *
  have hsp1 := cell_kept hbA hsp
  have hK1 := keys_calls mb W1
  have hK2 := skeys_calls mb nn D W1 (HS.out.map.below hbA) (HS.out.low HLOW.out)
  rw [HS.out.keys] at hK2
  have HK1 := Lib.hid hK1
  have HK2 := Lib.hid hK2
  have HBA := Lib.hid hbA
  have HGA := Lib.hid gA
  have HZA := Lib.hid hzA
  clear hK1 hK2 hbA gA hzA hsp
  go_wp2_with fail
  refine HK1.out.mono ?_
  rintro e w2 ⟨rfl, rfl⟩
  go_wp2_with fail
  refine HK2.out.mono ?_
  rintro e W3 ⟨vk, rfl, hvk, hb3⟩
  obtain ⟨Ak, ck, rfl, hkc, hkl⟩ := hvk.shape
  have hzA := HZA.out
  have hB3 : Below w.heap.size w W3 := by
    have h1 : Below w.heap.size W1 (W1.alloc (.cells #[.map (some mb)] 44)) := (Below.refl _ _).alloc (by omega) _
    exact HBA.out.trans (h1.trans (hb3.mono (by omega)))
  have hz3 : w.heap.size + 1 < W3.heap.size := by have := hb3.size; simp only [World.size_alloc] at this; omega
  have g5 : W3.heap[w.heap.size]? = some (.cells #[.map none] 76 (0, 0)) := (hb3.block _ (by omega)).trans ((Below.heap_alloc W1 _ w.heap.size (by omega)).trans HGA.out)
  have hI3 : MeasI F sp mb nn s D w.heap.size w.heap.size none (fun _ => none) W3 := ⟨g5, HS.out.later hB3, fun k e => (by cases e), fun k x e => (by cases e)⟩
  have hC : MeasC F sp mb w.heap.size w.heap.size := ⟨HF.out, hspl, hmbl, Nat.le_refl _⟩
  have hvl := vars_len s
  have HB3 := Lib.hid hB3
  have HI3 := Lib.hid hI3
  have HC := Lib.hid hC
  have HVK := Lib.hid hvk
  have HZ1 := Lib.hid hzA
  have HZ3 := Lib.hid hz3
  clear hvk hB3 hz3 g5 hI3 hC hb3 hsp1 HK1 HK2 hkc hkl HBA HGA HZA hzA
  go_wp2_with fail
  go_loopg [4, 16] ((vars s).length + 1) (fun k v i wr => ∃ (d : Nat) (r : Option Nat) (Dk : Int → Option Value), d + k = (vars s).length + 1 ∧ d ≤ (vars s).length ∧ i = .int .i64 d ∧ MeasI F sp mb nn s D w.heap.size w.heap.size r Dk wr ∧ Rok none r W3 ∧ SameOn (fun k => k ≠ w.heap.size) W3 wr ∧
    Own KB 39 (fun b => W3.heap.size ≤ b ∧ r ≠ some b) W3.heap.size wr v (((vars s).take d).map fun v => (v, fin s (var v))) ∧ (∀ g, v.ownBlock = some g → r ≠ some g) ∧
    ends s ((vars s).drop d) (((vars s).take d).map fun v => (v, fin s (var v))) = ends s (vars s) [])
  case atStart => exact ⟨0, none, _, by omega, by omega, rfl, HI3.out, .inl rfl, SameOn.refl _ _, Own.nil _ _ _ _ _, fun g e => (by cases e), rfl⟩
  case round =>
    obtain ⟨d, r, Dk, hd, hda, rfl, hI, hR, hS, hO, hOr, hE⟩ := hrel
    obtain ⟨Av, cv, hv⟩ := hO.shape
    subst hv
    have hoz := hO.len
    have hlenT : (List.map (fun v => (v, fin s (var v))) (List.take d (vars s))).length = d := by simp; omega
    rw [hlenT] at hO hOr ⊢
    have HI := Lib.hid hI
    have HR := Lib.hid hR
    have HSM := Lib.hid hS
    have HO := Lib.hid hO
    have HOR := Lib.hid hOr
    have HE := Lib.hid hE
    clear hI hR hS hO hOr hE
    by_cases hdl : d < (vars s).length
    · obtain ⟨hv256, u, hu⟩ := vars_mem (List.getElem_mem hdl)
      obtain ⟨t', ht'⟩ := HT.out _ u hu
      have hks := HVK.out.same HSM.out (fun b hb => by have := HZ3.out; have hb' : w.heap.size + 1 ≤ b ∨ W1.heap.size + 1 ≤ b := .inr hb; have := HZ1.out; omega)
      obtain ⟨bK, oK, rfl, -, -, hget⟩ := hks.get (by omega)
      obtain ⟨vs, hvs, hcell⟩ := hget d hdl
      have hvs' : vs = [.int .i64 (((vars s)[d] : Nat) : Int)] := hvs
      subst hvs'
      have kd := hcell 0 (by simp)
      have esz : (KI).sz = 1 := rfl
      simp only [esz, Nat.mul_one, Nat.add_zero, List.getElem_cons_zero] at kd
      clear hks hget hcell hvs esz
      generalize hvd : (vars s)[d] = vd at *
      have HU := Lib.hid hu
      have HT' := Lib.hid ht'
      have HVD := Lib.hid hvd
      clear hu ht' hvd
      have hx : IsF F wr (var vd) (.int .i64 (-1 - (vd : Int))) (.slice none 0 0) := .mk (f := fun _ => undef) (g := fun _ => undef) (by unfold I64; omega) (by simp) (by simp) (fun h => by simp at h) (fun i hi => by simp at hi)
      have hM := measure_calls F sp mb nn s HLOW.out D w.heap.size w.heap.size HC.out (var vd) t' HT'.out r Dk wr _ _ HI.out (by have := HSM.out.size; have := HZ3.out; omega) hx
      have HM := Lib.hid hM
      clear hx hM
      go_wp2_with fail
      refine HM.out.mono ?_
      rintro e w4 ⟨rfl, r4, Dk4, hI4, hR4, hS4⟩
      have hO4 : Own KB 39 (fun b => W3.heap.size ≤ b ∧ r4 ≠ some b) W3.heap.size w4 (.slice Av d cv) (((vars s).take d).map fun v => (v, fin s (var v))) :=
        (HO.out.bound.same hS4 (fun b hb => ⟨by have := HZ3.out; omega, hb.1.2⟩) (fun g e => ⟨by have := (HO.out.block g e).1; have := HZ3.out; omega, HOR.out g e⟩)).mono fun b (hb : (W3.heap.size ≤ b ∧ r ≠ some b) ∧ b < wr.heap.size) => ⟨hb.1.1, hR4.ne hb.2 hb.1.2⟩
      have hOr4 : ∀ g, (Value.slice Av d cv).ownBlock = some g → r4 ≠ some g := fun g e => hR4.ne (HO.out.block g e).2 (HOR.out g e)
      have hSM4 : SameOn (fun k => k ≠ w.heap.size) W3 w4 := HSM.out.join hS4 (fun k hk h => ⟨h, HR.out.ne hk (by simp)⟩)
      have hR34 : Rok none r4 W3 := HR.out.trans hR4 HSM.out.size
      have HI4 := Lib.hid hI4
      have HO4 := Lib.hid hO4
      have HOR4 := Lib.hid hOr4
      have HSM4 := Lib.hid hSM4
      have HR4 := Lib.hid hR34
      clear hI4 hO4 hOr4 hSM4 hR34 hR4 hS4 HI HO HOR HSM HR kd
      have hm0 := m0_le t'
      have hm1 := m1_le t'
      have hfin : fin s (var vd) = t' := fin_eq HT'.out
      have hdrop : (vars s).drop d = vd :: (vars s).drop (d + 1) := by rw [List.drop_eq_getElem_cons hdl, HVD.out]
      have htake : (vars s).take (d + 1) = (vars s).take d ++ [vd] := by rw [List.take_succ_eq_append_getElem hdl, HVD.out]
      have HFIN := Lib.hid hfin
      have HDR := Lib.hid hdrop
      have HTK := Lib.hid htake
      clear hfin hdrop htake
      by_cases g1 : 400 < t'.size
      · have e0 : m0 t' = 401 := by unfold m0; omega
        have hbig : big t' = 2 := by unfold big; rw [if_pos g1]
        have HBG := Lib.hid hbig
        clear hbig g1
        rw [e0] at *
        go_wp2
        go_ret2
        have hE := HE.out
        rw [HDR.out, ends_no HFIN.out (by rw [HBG.out]; decide), HBG.out] at hE
        rw [← hE]
        exact ⟨_, rfl, Sl.nil _ _ _, HB3.out.trans (((HSM4.out.below (n := w.heap.size) (by have := HZ3.out; omega) (fun k hk => by omega))).trans ((Below.refl _ _).alloc (by have := HSM4.out.size; have := HZ3.out; omega) _))⟩
      · have e0 : m0 t' ≤ 400 := by unfold m0; omega
        by_cases g2 : 40 < t'.depth
        · have e1 : m1 t' = 41 := by unfold m1; omega
          have hbig : big t' = 7 := by unfold big; rw [if_neg g1, if_pos g2]
          have HBG := Lib.hid hbig
          clear hbig g1 g2
          rw [e1] at *
          generalize m0 t' = a0 at *
          have e0' : decide (400 < a0) = false := by simpa using e0
          go_wp2
          go_ret2
          have hE := HE.out
          rw [HDR.out, ends_no HFIN.out (by rw [HBG.out]; decide), HBG.out] at hE
          rw [← hE]
          exact ⟨_, rfl, Sl.nil _ _ _, HB3.out.trans (((HSM4.out.below (n := w.heap.size) (by have := HZ3.out; omega) (fun k hk => by omega))).trans ((Below.refl _ _).alloc (by have := HSM4.out.size; have := HZ3.out; omega) _))⟩
        · have e1 : m1 t' ≤ 40 := by unfold m1; omega
          have hbig : big t' = 0 := by unfold big; rw [if_neg g1, if_neg g2]
          have hsz : t'.size ≤ 400 := by omega
          have HBG := Lib.hid hbig
          have HSZ := Lib.hid hsz
          clear hbig g1 g2 hsz
          generalize m0 t' = a0 at *
          generalize m1 t' = a1 at *
          have e0' : decide (400 < a0) = false := by simpa using e0
          have e1' : decide (40 < a1) = false := by simpa using e1
          go_upto_region 11 with fail
          have hb5 : Below w4.heap.size w4 (w4.alloc (.cells #[.int .i64 a0, .int .i64 a1] 81)) := (Below.refl _ _).alloc (Nat.le_refl _) _
          have hz5 : (w4.alloc (.cells #[.int .i64 a0, .int .i64 a1] 81)).heap.size = w4.heap.size + 1 := by simp
          generalize (w4.alloc (.cells #[.int .i64 a0, .int .i64 a1] 81)) = W5 at *
          have hI5 := HI4.out.later hb5
          have hsp5 := hI5.solv.ptr
          obtain ⟨xu, yu, hDu, hxu⟩ := hI5.solv.some_ _ _ HU.out
          have hlook := hI5.solv.map.look Try.underlying44 (Try.zeroValue24 _) (k := vd) (by unfold I64; omega) false
          rw [hDu] at hlook
          have hFl : ∀ k, F k → k < W5.heap.size := fun k hk => by have := HF.out k hk; have := HSM4.out.size; have := HZ3.out; omega
          have hfull := full_calls U s hU sp mb nn D t'.size u t' (.agg #[xu, yu]) F W5 (Nat.le_refl _) (by have := HSZ.out; omega) (hU.vals _ _ HU.out).1 (Full.of_var HU.out HT'.out) hI5.solv ⟨_, _, rfl, hxu⟩ hFl
          have HFULL := Lib.hid hfull
          have HI5 := Lib.hid hI5
          have HB5 := Lib.hid hb5
          have HZ5 := Lib.hid hz5
          clear hI5 hDu hxu hFl hfull hb5 hz5
          go_wp2_with fail
          refine HFULL.out.mono ?_
          rintro e w6 ⟨vf, rfl, ⟨xf, yf, rfl, hf⟩, hb6⟩
          obtain ⟨rfl, hif, hsf⟩ := hf.parts
          obtain ⟨Af, cf, rfl, -, -⟩ := hsf.shapeT
          have HFT := Lib.hid hf
          have HB6 := Lib.hid hb6
          clear hf hif hsf hb6 hlook
          have hz6 := HB6.out.size
          have hz5 := HZ5.out
          have hz4 : W3.heap.size ≤ w4.heap.size := HSM4.out.size
          have hbw : Below w4.heap.size w4 w6 := HB5.out.trans (HB6.out.mono (by have := HZ5.out; omega))
          have hb7 : Below w6.heap.size w6 (w6.alloc (.cells #[.int .i64 (vd : Int), .int .i64 t'.head, .slice Af t'.args.length cf] 39)) := (Below.refl _ _).alloc (Nat.le_refl _) _
          have hrow : Row KB (W5.heap.size ≤ ·) (w6.alloc (.cells #[.int .i64 (vd : Int), .int .i64 t'.head, .slice Af t'.args.length cf] 39)) [(vd, t')] w6.heap.size 0 := row_of_block (K := KB) ⟨_, _, rfl, HFT.out⟩ _
          have hO7 := HO4.out.later (hbw.trans (hb7.mono (by omega)))
          have hF7 : ∀ k, W5.heap.size ≤ k → k < (w6.alloc (.cells #[.int .i64 (vd : Int), .int .i64 t'.head, .slice Af t'.args.length cf] 39)).heap.size → (W3.heap.size ≤ k ∧ r4 ≠ some k) ∧ some k ≠ (Value.slice Av d cv).ownBlock := fun k hk _ => by
            have := HZ5.out
            refine ⟨⟨by omega, fun e => ?_⟩, fun e => ?_⟩
            · have := (HI4.out.seen k e).2.2.lt; omega
            · have := (HO4.out.block k e.symm).2; omega
          have HROW := Lib.hid hrow
          have HO7 := Lib.hid hO7
          have HF7 := Lib.hid hF7
          have HBW := Lib.hid (hbw.trans (hb7.mono (by omega)))
          clear hrow hO7 hF7 hbw hb7
          go_wp2_with (at_builtin; refine wp_append (K := KB) (F := fun b => W3.heap.size ≤ b ∧ r4 ≠ some b) (F1 := (W5.heap.size ≤ ·)) W3.heap.size rfl (.tmp 33) (.tmp 44) 26 39 (.agg #[.int .i64 0, .int .i64 0, .slice none 0 0]) rfl Try.underlying26 Try.infoB rfl (.slice Av d cv) (((vars s).take d).map fun v => (v, fin s (var v))) [(vd, t')] rfl w6.heap.size 0 1 rfl HO7.out HROW.out HF7.out (by have e : (KB).by_ = 40 := rfl; rw [e, hlenT]; simp only [List.length_cons, List.length_nil]; omega) (by simp; omega) ?_; intro v8 w8 hO8 hg8 hat8 hsh8; obtain ⟨g8, c8, rfl⟩ := hsh8 (by simp); rw [hlenT] at hO8 hat8; rw [hlenT]; have HO8 := Lib.hid hO8; have HG8 := Lib.hid hg8; have HAT8 := Lib.hid hat8; clear hO8 hg8 hat8 hsh8)
          have hown : ∀ k, (Value.slice Av d cv).ownBlock = some k → W3.heap.size ≤ k ∧ k < w4.heap.size ∧ r4 ≠ some k := fun k e => ⟨(HO4.out.block k e).1, (HO4.out.block k e).2, HOR4.out k e⟩
          have hs8 : SameOn (fun k => (Value.slice Av d cv).ownBlock ≠ some k) w4 w8 := (SameOn.of_new HBW.out).trans (SameOn.of_grown HG8.out (fun k e h => h e))
          have hz8 := hs8.size
          have hI8 : MeasI F sp mb nn s D w.heap.size w.heap.size r4 Dk4 w8 := HI4.out.same hs8 (fun k hk e => by have := hown k e; have := HF.out k hk; have := HZ3.out; omega) (fun e => by have := hown sp e; have := HZ3.out; omega) (fun e => by have := hown mb e; have := HZ3.out; omega) (fun e => by have := hown _ e; have := HZ3.out; omega) (fun k hk e => (hown k e).2.2 hk)
          have hacc : ((vars s).take (d + 1)).map (fun v => (v, fin s (var v))) = ((vars s).take d).map (fun v => (v, fin s (var v))) ++ [(vd, t')] := by rw [HTK.out, List.map_append, List.map_singleton, HFIN.out]
          go_roundg (gk - 1)
          case rel =>
            refine ⟨d + 1, r4, Dk4, by omega, by omega, by go_num, hI8, HR4.out, HSM4.out.join hs8 (fun k hk _ e => by have := hown k e; omega), ?_, fun g e => ?_, ?_⟩
            · rw [hacc]; exact HO8.out
            · rcases HAT8.out with h | h
              · exact (hown g (h.symm.trans e)).2.2
              · have e := h.symm.trans e
                simp only [World.size_alloc, Option.some.injEq] at e
                intro hr
                have := (HI4.out.seen g hr).2.2.lt
                have := HZ5.out
                omega
            · rw [hacc, ← HE.out, HDR.out, ends_yes HFIN.out HBG.out]
          case measure => omega
    · have hde : d = (vars s).length := by omega
      subst hde
      have hE := HE.out
      rw [List.drop_length, List.take_length] at hE
      have hO := HO.out
      rw [List.take_length] at hO
      have HO := Lib.hid hO
      have HE := Lib.hid hE
      clear hO hE
      go_wp2
      go_ret2
      rw [← HE.out]
      simp only [ends]
      refine ⟨_, rfl, HO.out.sl.mono (fun b hb => ?_), HB3.out.trans (HSM.out.below (n := w.heap.size) (by have := HZ3.out; omega) (fun k hk => by omega))⟩
      rcases hb with h | h
      · have := h.1; have := HZ3.out; omega
      · have := (HO.out.block b h.symm).1; have := HZ3.out; omega
end Go.Proofs.Ytokhnlhffnidmaa
