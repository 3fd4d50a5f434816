/- The reference's All. -/
import Derived.Test.YtokhnlhffnidmaaRefI
import Derived.Test.YtokhnlhffnidmaaUniL
import Derived.Test.YtokhnlhffnidmaaPlainI
namespace Go.Proofs.Ytokhnlhffnidmaa
open Go.RowKit Go.Shelf Elen

theorem rightAll_any : ∀ l : List T, T.rightAll l = !(l.any notOK)
  | [] => rfl
  | a :: l => by
    simp only [T.rightAll, List.any_cons, rightAll_any l, Bool.not_or]
    congr 1
    unfold T.rightB notOK
    by_cases h : a.check = 0 <;> simp [h]

set_option maxRecDepth 100000 in
set_option maxHeartbeats 2000000 in
theorem rall_calls (F : Nat → Prop) (la lb : List T) (va vb : Value) (w : World) (ha : Sl KT F w la va) (hb : Sl KT F w lb vb) (hz : la.length + 8 * (T.sizeL la + T.sizeL lb) ≤ 1000000) (q : Option (List Nd × Sub))
    (hq : wrongs la lb = false → RRun (putZ [] (la.zip lb)).1 (fun _ => none) (fun _ _ => false) (putZ [] (la.zip lb)).2 q ∧ ∀ n' s', q = some (n', s') → Like (putZ [] (la.zip lb)).1 n' ∧ Net n' ∧ Rep n' s' ∧ Fine s') :
    Calls Try.prog 11 #[va, vb] w (AllPost (allR la lb (q.map (·.2))) w) := by
  obtain ⟨A, ca, rfl, ha1, ha2⟩ := ha.shapeT
  obtain ⟨B, cb, rfl, hb1, hb2⟩ := hb.shapeT
  have hla := T.length_le_sizeL la
  have hlb := T.length_le_sizeL lb
  have hwa := all_calls la _ w (ha.mono fun _ _ => trivial) (fun t ht => by have := T.size_mem ht; omega)
  have hwb : ∀ W : World, Below w.heap.size w W → Calls Try.prog 21 #[.slice B lb.length cb] W fun e w' => e = .returned (.bool (T.rightAll lb)) ∧ Below W.heap.size W w' := fun W hW => all_calls lb _ W ((hb.later hW).mono fun _ _ => trivial) (fun t ht => by have := T.size_mem ht; omega)
  have HWA := Lib.hid hwa
  have HWB := Lib.hid hwb
  have HQ := Lib.hid hq
  have HA := Lib.hid ha
  have HB := Lib.hid hb
  clear hwa hwb hq ha hb
  go_enter Try.func11, Try.ntmps11
  go_wp2_with fail
  refine HWA.out.mono ?_
  rintro e w1 ⟨rfl, hb1⟩
  have HB1 := Lib.hid hb1
  clear hb1
  cases hra : T.rightAll la with
  | false =>
    have this : wrongs la lb = true := by
      have := rightAll_any la
      rw [hra] at this
      have : la.any notOK = true := by simpa using this.symm
      unfold wrongs; rw [this]; simp
    clear hra
    go_wp2_with fail
    go_ret3
    unfold allR
    rw [if_pos this]
    exact ⟨_, rfl, Sl.nil _ _ _, HB1.out⟩
  | true =>
  have h1 : la.any notOK = false := by
    have := rightAll_any la
    rw [hra] at this
    simpa using this.symm
  have H1 := Lib.hid h1
  clear h1 hra
  go_wp2_with fail
  refine (HWB.out w1 HB1.out).mono ?_
  rintro e w2 ⟨rfl, hb2⟩
  have HB2 := Lib.hid (HB1.out.trans (hb2.mono HB1.out.size))
  clear hb2
  cases hrb : T.rightAll lb with
  | false =>
    have this : wrongs la lb = true := by
      have := rightAll_any lb
      rw [hrb] at this
      have : lb.any notOK = true := by simpa using this.symm
      unfold wrongs; rw [this]; simp
    clear hrb
    go_wp2_with fail
    go_ret3
    unfold allR
    rw [if_pos this]
    exact ⟨_, rfl, Sl.nil _ _ _, HB2.out⟩
  | true =>
  have h2 : lb.any notOK = false := by
    have := rightAll_any lb
    rw [hrb] at this
    simpa using this.symm
  have H2 := Lib.hid h2
  clear h2 hrb
  by_cases hl : la.length = lb.length
  case neg =>
    have hne : ((la.length : Int) != (lb.length : Int)) = true := by simp; omega
    have this : wrongs la lb = true := by unfold wrongs; simp [hl]
    clear hl
    go_wp2_with fail
    go_ret3
    unfold allR
    rw [if_pos this]
    exact ⟨_, rfl, Sl.nil _ _ _, HB2.out⟩
  have hne : ((la.length : Int) != (lb.length : Int)) = false := by simp; omega
  have hwr : wrongs la lb = false := by unfold wrongs; rw [H1.out, H2.out, hl]; simp
  have HL := Lib.hid hl
  have HWR := Lib.hid hwr
  clear hl hwr
  go_upto_region 5 with fail
  have hb3 : Below w2.heap.size w2 (w2.alloc (.cells #[.slice none 0 0] 53)) := (Below.refl _ _).alloc (Nat.le_refl _) _
  have g3 := World.alloc_heap_new w2 (.cells #[.slice none 0 0] 53)
  have hz3 : (w2.alloc (.cells #[.slice none 0 0] 53)).heap.size = w2.heap.size + 1 := by simp
  generalize (w2.alloc (.cells #[.slice none 0 0] 53)) = W3 at *
  have hz2 := HB2.out.size
  generalize hgn : w2.heap.size = gn at *
  have hnet0 : NetB (· = gn) gn W3 gn [] (.slice none 0 0) [] (fun _ => undef) := by
    refine ⟨g3, ⟨by simp, .inl ⟨rfl, rfl⟩⟩, by simp, fun i nd h => by simp at h, fun i nd h => by simp at h, fun i nd h => by simp at h, fun i j _ h => by simp at h, rfl, fun k h => by simp [Value.ownBlock] at h, fun i nd k h => by simp at h, fun k h => by omega⟩
  have hB3 : Below w.heap.size w W3 := HB2.out.trans (hb3.mono hz2)
  have HNET0 := Lib.hid hnet0
  have HB3 := Lib.hid hB3
  have HZ3 := Lib.hid hz3
  have hgood : ∀ p, p ∈ la.zip lb → T.good p.1 = true ∧ T.good p.2 = true := fun p hp => by
    have hw := wrongs_not HWR.out
    have key : ∀ l : List T, T.goodL l = true → ∀ a, a ∈ l → T.good a = true := by
      intro l
      induction l with
      | nil => intro _ a h; cases h
      | cons b l ih =>
        intro h a ha
        simp only [T.goodL, Bool.and_eq_true] at h
        cases ha with
        | head => exact h.1
        | tail _ ha => exact ih h.2 a ha
    have := List.of_mem_zip (show (p.1, p.2) ∈ la.zip lb from hp)
    exact ⟨key _ hw.2 _ (List.mem_append_left _ this.1), key _ hw.2 _ (List.mem_append_right _ this.2)⟩
  have hput := putZ_put (la.zip lb) [] ⟨fun i j x y h => by simp at h, fun i x h => by simp at h, fun i x h => by simp at h⟩ (fun j hj => by simp at hj) hgood
  have HPUT := Lib.hid hput
  clear hput
  have hszz := sizes_zip la lb
  have hzl : (la.zip lb).length = la.length := by have := HL.out; simp; omega
  have HGOOD := Lib.hid hgood
  have HZL := Lib.hid hzl
  have HGN : Hid (w.heap.size ≤ gn) := by exact hz2
  clear hnet0 hB3 hb3 g3 hz3 hgn hgood hzl HB1 HB2 HWA HWB H1 H2 hne
  go_wp2_with fail
  go_loopg [8, 9] (la.length + 1) (fun k vl i wr => ∃ (d : Nat) (N : List Nd) (l : List (Nat × Nat)) (lv : Value) (cs : List Value) (av : Nat → Value) (F' : Nat → Prop), d + k = la.length + 1 ∧ d ≤ la.length ∧ i = .int .i64 d ∧ NetB F' gn wr gn N lv cs av ∧ Fresh N ∧ N.length + sizes ((la.zip lb).drop d) ≤ sizes (la.zip lb) ∧
    (putZ N ((la.zip lb).drop d)).1 = (putZ [] (la.zip lb)).1 ∧ l ++ (putZ N ((la.zip lb).drop d)).2 = (putZ [] (la.zip lb)).2 ∧ l.length = d ∧ Own KP 57 (fun _ => False) gn wr vl l ∧ (∀ g, vl.ownBlock = some g → ¬ F' g) ∧ Below gn W3 wr)
  case atStart => exact ⟨0, [], [], _, _, _, _, by omega, by omega, rfl, HNET0.out, ⟨fun i j x y h => by simp at h, fun i x h => by simp at h, fun i x h => by simp at h⟩, by simp, rfl, rfl, rfl, Own.nil _ _ _ _ _, fun g h => by simp [Value.ownBlock] at h, Below.refl _ _⟩
  case round =>
    obtain ⟨d, N, l, lv, cs, av, F', hd, hda, rfl, hN, hF, hNs, hZ1, hZ2, hld, hO, hOF, hBr⟩ := hrel
    obtain ⟨Av, cv, rfl⟩ := hO.shape
    rw [hld] at hO hOF ⊢
    by_cases hdl : d < la.length
    · have hdlb : d < lb.length := by have := HL.out; omega
      have hdz : d < (la.zip lb).length := by rw [HZL.out]; exact hdl
      have hdrop : (la.zip lb).drop d = (la[d], lb[d]) :: (la.zip lb).drop (d + 1) := by rw [List.drop_eq_getElem_cons hdz, List.getElem_zip]
      rw [hdrop] at hNs hZ1 hZ2
      have hgd := HGOOD.out (la[d], lb[d]) (by rw [← List.getElem_zip (h := hdz)]; exact List.getElem_mem hdz)
      simp only [sizes, putZ] at hNs hZ1 hZ2
      have hP1 := putP_put la[d] N hF hgd.1
      have hP2 := putP_put lb[d] (putP N la[d]).1 hP1.fresh hgd.2
      have hlar : Sl KT (· < gn) wr la _ := ((HA.out.bound.move (fun b hb => HB3.out.block b hb.2)).mono (F' := (· < gn)) (fun b hb => by have := HGN.out; have := hb.2; omega)).move (fun b hb => hBr.block b hb)
      have hlbr : Sl KT (· < gn) wr lb _ := ((HB.out.bound.move (fun b hb => HB3.out.block b hb.2)).mono (F' := (· < gn)) (fun b hb => by have := HGN.out; have := hb.2; omega)).move (fun b hb => hBr.block b hb)
      obtain ⟨bA, oA, rfl, -, -, hcA⟩ := hlar.cells (by omega)
      obtain ⟨xa, ya, ka0, ka1, hxa⟩ := hcA d hdl
      obtain ⟨bB, oB, rfl, hFB, -, hcB⟩ := hlbr.cells (by omega)
      obtain ⟨xb, yb, kb0, kb1, hxb⟩ := hcB d hdlb
      have hbB : bB < gn := hFB
      have hs1 : N.length + la[d].size ≤ 1000000 := by omega
      have hput1 := put_calls gn gn la[d] N F' (· < gn) wr xa ya lv cs av hgd.1 hs1 hxa (fun k hk => hk) hN hF
      have HPUT1 := Lib.hid hput1
      have HXB := Lib.hid hxb
      have HKB := Lib.hid (And.intro kb0 kb1)
      have HO := Lib.hid hO
      have HOF := Lib.hid hOF
      have HBR := Lib.hid hBr
      have HNS := Lib.hid hNs
      have HZA := Lib.hid hZ1
      have HZB := Lib.hid hZ2
      have HLD := Lib.hid hld
      have HP1 := Lib.hid hP1
      have HP2 := Lib.hid hP2
      have HGD := Lib.hid hgd
      have HNlt := Lib.hid hN.lt
      clear hput1 hxb kb0 kb1 hO hOF hBr hNs hZ1 hZ2 hP1 hP2 hlar hlbr hcA hcB hxa hFB hN hF hdrop hgd
      go_wp2_with fail
      refine HPUT1.out.mono ?_
      rintro e w4 ⟨lv1, cs1, av1, F1, rfl, hN1, hF1, hk1, hb1⟩
      have hsm1 : SameOn (fun k => ¬ F' k) wr w4 := ⟨hb1.os, hb1.tape, hb1.output, hb1.size, fun k hk hF => hk1 k hk hF⟩
      have hO1 := HO.out.same hsm1 (fun b h => h.elim) HOF.out
      have hOF1 : ∀ g, (Value.slice Av d cv).ownBlock = some g → ¬ F1 g := fun g e h => by
        rcases hF1 g h with h | h
        · exact HOF.out g e h
        · have := (HO.out.block g e).2; omega
      have kb0 := (hb1.cell (p := ⟨bB, _, none⟩) hbB).trans HKB.out.1
      have kb1 := (hb1.cell (p := ⟨bB, _, none⟩) hbB).trans HKB.out.2
      have hlen2 : (putP N la[d]).1.length + lb[d].size ≤ 1000000 := by have := HP1.out.small; have := HNS.out; omega
      have hput2 := put_calls gn gn lb[d] (putP N la[d]).1 F1 (· < gn) w4 xb yb lv1 cs1 av1 HGD.out.2 hlen2 (HXB.out.move (fun k hk => hb1.block k hk)) (fun k hk => hk) hN1 HP1.out.fresh
      have HPUT2 := Lib.hid hput2
      have HO1 := Lib.hid hO1
      have HOF1 := Lib.hid hOF1
      have HBR1 := Lib.hid (HBR.out.trans hb1)
      clear hput2 hO1 hOF1 hsm1 hk1 hb1 hF1 hN1
      go_wp2_with fail
      refine HPUT2.out.mono ?_
      rintro e w5 ⟨lv2, cs2, av2, F2, rfl, hN2, hF2, hk2, hb2⟩
      have hsm2 : SameOn (fun k => ¬ F1 k) w4 w5 := ⟨hb2.os, hb2.tape, hb2.output, hb2.size, fun k hk hF => hk2 k hk hF⟩
      have hO2 := HO1.out.same hsm2 (fun b h => h.elim) HOF1.out
      have hOF2 : ∀ g, (Value.slice Av d cv).ownBlock = some g → ¬ F2 g := fun g e h => by
        rcases hF2 g h with h | h
        · exact HOF1.out g e h
        · have := (HO1.out.block g e).2; omega
      have hgl : gn < w5.heap.size := (hN2.lt gn hN2.fn).2
      have hbq : Below w5.heap.size w5 (w5.alloc (.cells #[.int .i64 ((putP N la[d]).2 : Int), .int .i64 ((putP (putP N la[d]).1 lb[d]).2 : Int)] 57)) := (Below.refl _ _).alloc (Nat.le_refl _) _
      have hrow : Row KP (fun _ => False) (w5.alloc (.cells #[.int .i64 ((putP N la[d]).2 : Int), .int .i64 ((putP (putP N la[d]).1 lb[d]).2 : Int)] 57)) [((putP N la[d]).2, (putP (putP N la[d]).1 lb[d]).2)] w5.heap.size 0 := row_of_block (K := KP) rfl _
      have HN2 := Lib.hid hN2
      have HO2 := Lib.hid (hO2.later hbq)
      have HOL := Lib.hid hO2.block
      have HOF2 := Lib.hid hOF2
      have HROW := Lib.hid hrow
      have HBR2 := Lib.hid (HBR1.out.trans hb2)
      clear hsm2 hk2 hb2 hF2 hN2 hO2 hOF2 hbq hrow kb0 kb1
      go_wp2_with (at_builtin; refine wp_append (K := KP) (F := fun _ => False) (F1 := fun _ => False) gn rfl (.tmp 51) (.tmp 55) 54 57 (.agg #[.int .i64 0, .int .i64 0]) rfl Try.underlying54 Try.infoP rfl (.slice Av d cv) l [((putP N la[d]).2, (putP (putP N la[d]).1 lb[d]).2)] rfl w5.heap.size 0 1 rfl HO2.out HROW.out (fun k h => h.elim) (by have e : (KP).by_ = 16 := rfl; rw [e, HLD.out]; simp only [List.length_cons, List.length_nil]; omega) (by simp; omega) ?_; intro v8 w8 hO8 hg8 hat8 hsh8; obtain ⟨g8, c8, rfl⟩ := hsh8 (by simp); rw [HLD.out] at hO8 hat8; rw [HLD.out]; have HO8 := Lib.hid hO8; have HG8 := Lib.hid hg8; have HAT8 := Lib.hid hat8; clear hO8 hg8 hat8 hsh8)
      have hs8 : SameOn (fun k => (Value.slice Av d cv).ownBlock ≠ some k) w5 w8 := (SameOn.of_new ((Below.refl _ _).alloc (Nat.le_refl _) _)).trans (SameOn.of_grown HG8.out (fun k e h => h e))
      have hz8 := hs8.size
      go_roundg (gk - 1)
      case rel =>
        refine ⟨d + 1, _, l ++ [((putP N la[d]).2, (putP (putP N la[d]).1 lb[d]).2)], lv2, cs2, av2, F2, by omega, by omega, by go_num, HN2.out.keep (fun k hk => hs8.block k (HN2.out.lt k hk).2 (fun e => HOF2.out k e hk)) hz8, HP2.out.fresh, ?_, HZA.out, ?_, ?_, HO8.out, fun g e h => ?_, HBR2.out.trans (hs8.below (n := gn) (by omega) (fun k hk e => by have := (HOL.out k e).1; omega))⟩
        · have := HNS.out; have := HP1.out.small; have := HP2.out.small; omega
        · rw [List.append_assoc]; exact HZB.out
        · simp [HLD.out]
        · rcases HAT8.out with h' | h'
          · exact HOF2.out g (h'.symm.trans e) h
          · have e := h'.symm.trans e
            simp only [World.size_alloc, Option.some.injEq] at e
            have := (HN2.out.lt g h).2
            omega
      case measure => omega
    · have hde : d = la.length := by omega
      subst hde
      have hdr : (la.zip lb).drop la.length = [] := by rw [List.drop_eq_nil_iff]; rw [HZL.out]; exact Nat.le_refl _
      rw [hdr] at hNs hZ1 hZ2
      simp only [putZ, List.append_nil, sizes] at hNs hZ1 hZ2
      obtain ⟨-, hFr, hAD, -, hNl⟩ := HPUT.out
      obtain ⟨hrun, hqq⟩ := HQ.out HWR.out
      rw [← hZ1, ← hZ2] at hrun
      rw [← hZ1] at hqq hFr hAD hNl
      simp only [List.length_nil, Nat.zero_add] at hNl
      have hN5 : N.length ≤ 125000 := by omega
      have hsq : N.length * N.length ≤ 125000 * 125000 := Nat.mul_le_mul hN5 hN5
      have hslp : Sl KP (fun k => ¬ F' k) wr l (.slice Av la.length cv) := hO.sl.mono (fun b hb => by
        rcases hb with h | h
        · exact h.elim
        · exact hOF b h.symm)
      have hsol := solve_calls F' gn gn lv av N (fun _ => none) l q cs wr _ (net_of hFr hAD) (rep_of hFr) hrun hN hslp (args_of hAD) (by rw [hld]; omega)
      have HSOL := Lib.hid hsol
      have HBR := Lib.hid hBr
      have HQQ := Lib.hid hqq
      clear hsol hBr hqq hslp hsq hN hO hOF hFr hAD hrun hZ1 hZ2 hF HPUT HQ HGOOD
      go_wp2_with fail
      refine HSOL.out.mono ?_
      rintro e w4 ⟨rfl, hN4, -, hb4⟩
      have hB4 : Below w.heap.size w w4 := HB3.out.trans (((HBR.out.trans hb4)).mono HGN.out)
      have HB4 := Lib.hid hB4
      have HN4 := Lib.hid hN4
      clear hB4 hN4 hb4
      cases hqe : q with
      | none =>
        have HWR' := Lib.hid HWR.out
        simp only [Option.isSome_none]
        have hal : allR la lb ((none : Option (List Nd × Sub)).map (·.2)) = ([], false, 0) := by
          unfold allR
          rw [HWR'.out]
          rfl
        have HAL := Lib.hid hal
        clear hal
        have HQE := Lib.hid hqe
        clear hqe
        go_wp2_with fail
        go_ret3
        rw [HQE.out, HAL.out]
        exact ⟨_, rfl, Sl.nil _ _ _, HB4.out⟩
      | some qs =>
      obtain ⟨n', s'⟩ := qs
      obtain ⟨cs', hN'⟩ := HN4.out n' s' hqe
      obtain ⟨hlike, hnet, hrep, hfine⟩ := HQQ.out n' s' hqe
      have hnl : n'.length = N.length := hlike.1.symm
      obtain ⟨Al, cl, rfl⟩ := own_shape hN'.own
      have kc := cell_of_block hN'.at_ (j := 0) (v := .slice Al n'.length cl) rfl
      have hNR : 0 < n'.length → ∃ g, Al = some ⟨g, 0, none⟩ ∧ NetR F' w4 gn g cl n' := fun hp => by
        obtain ⟨g, cap, h⟩ := hN'.netR hp
        have := h.1
        rw [kc] at this
        cases this
        exact ⟨g, rfl, h⟩
      have hal : allR la lb (some s') = ((ends s' (vars s') []).1, decide ((ends s' (vars s') []).2 = 0), (ends s' (vars s') []).2) := by
        unfold allR
        rw [HWR.out]
        rfl
      have HAL := Lib.hid hal
      have HNR := Lib.hid hNR
      have HNET := Lib.hid hnet
      have HREP := Lib.hid hrep
      have HFINE := Lib.hid hfine
      have hgn4 : gn < w4.heap.size := World.block_lt_of_cell? w4 _ kc
      have hv0 : ends s' (varsFrom s' 0) [] = ends s' (vars s') [] := by rw [varsFrom_zero]
      have HV0 := Lib.hid hv0
      have HLT : Hid (∀ k, F' k → k < w4.heap.size) := by
        have : ∀ k, F' k → k < w4.heap.size := fun k hk => (hN'.lt k hk).2
        exact this
      clear hal hNR hnet hrep hfine hlike hN' hv0
      subst hqe
      simp only [Option.isSome_some]
      go_wp2_with fail
      go_loopg [12, 13] 257 (fun k vo i wi => ∃ (d : Nat) (acc : List (Nat × T)), d + k = 257 ∧ i = .int .i64 d ∧ d ≤ 256 ∧ Own KB 39 (w4.heap.size ≤ ·) w4.heap.size wi vo acc ∧ acc.length ≤ d ∧ Below w4.heap.size w4 wi ∧ ends s' (varsFrom s' d) acc = ends s' (vars s') [])
      case atStart => exact ⟨0, [], by omega, rfl, by omega, Own.nil _ _ _ _ _, by simp, Below.refl _ _, HV0.out⟩
      case round =>
        obtain ⟨dv, acc, hdk, rfl, hdv, hO, hacl, hBi, hE⟩ := hrel
        obtain ⟨G, hG⟩ : ∃ G, G = gk := ⟨_, rfl⟩
        obtain ⟨Av', cv', rfl⟩ := hO.shape
        by_cases hd6 : dv < 256
        · have h255 : (dv : Int) ≤ 255 := by omega
          have hstep := varsFrom_step s' hd6
          rw [hstep] at hE
          have hb0 : ∃ b : List Nat, ((Pend n' dv 0 ∧ b = [dv]) ∨ (¬ Pend n' dv 0 ∧ b = [])) ∧ ends s' (b ++ varsFrom s' (dv + 1)) acc = ends s' (vars s') [] := by
            refine ⟨_, ?_, hE⟩
            have := Pend.zero HREP.out dv
            by_cases c : (s' (dv : Int)).isSome = true
            · rw [if_pos c]; exact .inl ⟨this.2 c, rfl⟩
            · rw [if_neg c]; exact .inr ⟨fun h => c (this.1 h), rfl⟩
          have HB0 := Lib.hid hb0
          have HO := Lib.hid hO
          have HBI := Lib.hid hBi
          clear hO hE hBi hb0 hstep
          go_wp2_with fail
          go_loopg [12, 14] (n'.length + 1) (fun k vo i wj => ∃ (j : Nat) (acc : List (Nat × T)), j + k = n'.length + 1 ∧ i = .int .i64 j ∧ j ≤ n'.length ∧ Own KB 39 (w4.heap.size ≤ ·) w4.heap.size wj vo acc ∧ acc.length ≤ dv + 1 ∧ (Pend n' dv j → acc.length ≤ dv) ∧ Below w4.heap.size w4 wj ∧
            ∃ b : List Nat, ((Pend n' dv j ∧ b = [dv]) ∨ (¬ Pend n' dv j ∧ b = [])) ∧ ends s' (b ++ varsFrom s' (dv + 1)) acc = ends s' (vars s') [])
          case atStart => exact ⟨0, acc, by omega, rfl, by omega, HO.out, by omega, fun _ => hacl, HBI.out, HB0.out⟩
          case round =>
            obtain ⟨j, acc2, hjk, rfl, hjl, hO, hacl2, hacl3, hBj, b, hbb, hE⟩ := hrel
            obtain ⟨Aw, cw, rfl⟩ := hO.shape
            have kcj := cell_kept hBj kc
            by_cases hjn : j < n'.length
            · have hjx := List.getElem?_eq_getElem hjn
              generalize hx : n'[j] = x at *
              obtain ⟨g, hAl, hnr⟩ := HNR.out (by omega)
              subst hAl
              have hnrj := hnr.move (fun b hb => hBj.block b (HLT.out b hb))
              obtain ⟨-, kh, kt, -⟩ := hnrj.get hjx
              have hi64 := hnrj.i64 hjx
              have HJX := Lib.hid hjx
              have HNRJ := Lib.hid hnrj
              have HO := Lib.hid hO
              have HBB := Lib.hid hbb
              have HE := Lib.hid hE
              have HBJ := Lib.hid hBj
              have HA3 := Lib.hid hacl3
              clear hjx hnr hnrj hO hbb hE hBj hx hacl3 kc
              by_cases hh : x.head = -1 - (dv : Int)
              · have hne : (x.head != -1 - (dv : Int)) = false := by simpa using hh
                by_cases ht : x.to < 0
                · have HH := Lib.hid ht
                  have hdt : decide (x.to < 0) = true := by simpa using ht
                  clear ht hh
                  go_wp2
                  go_roundg (gk - 1)
                  case rel => exact ⟨j + 1, acc2, by omega, by go_num, by omega, HO.out, hacl2, fun h => HA3.out ((Pend.next HJX.out (.inr HH.out)).2 h), HBJ.out, b, by rw [← Pend.next HJX.out (.inr HH.out)]; exact HBB.out, HE.out⟩
                  case measure => omega
                · have hdt : decide (x.to < 0) = false := by simpa using ht
                  have hpend := Pend.here HJX.out hh (by omega)
                  have hbe : b = [dv] := by
                    rcases HBB.out with h | h
                    · exact h.2
                    · exact absurd hpend h.1
                  subst hbe
                  have hE := HE.out
                  rw [List.singleton_append] at hE
                  obtain ⟨t', ht'⟩ := HFINE.out.tot (var dv)
                  have hden : Den n' j (var dv) := by
                    obtain ⟨u, hu, _⟩ := HNET.out.den j hjn
                    cases hu with
                    | @mk _ nd ts e hl hs =>
                      rw [HJX.out] at e; cases e
                      have hleaf := HNET.out.leaf j x HJX.out (by omega)
                      rw [hleaf] at hl
                      have : ts = [] := List.length_eq_zero_iff.1 hl.symm
                      subst this
                      have hu : T.mk x.head [] = var dv := by unfold var; rw [hh]
                      rw [← hu]
                      exact Den.mk HJX.out (by rw [hleaf]; rfl) hs
                  have hfin : fin s' (var dv) = t' := fin_eq ht'
                  have hacd := HA3.out hpend
                  have hchk := ncheck_calls F' n' s' HNET.out HREP.out gn g cl j (var dv) t' wr hden ht' HNRJ.out (by omega)
                  have HCHK := Lib.hid hchk
                  have HEE := Lib.hid hE
                  have HFULL := Lib.hid ht'
                  have HDEN := Lib.hid hden
                  have HFIN := Lib.hid hfin
                  have HHD := Lib.hid hh
                  clear hchk hE ht' hden hfin hh ht HE HBB HA3
                  go_wp2_with fail
                  refine HCHK.out.mono ?_
                  rintro e w5 ⟨rfl, hb5⟩
                  have HB5 := Lib.hid (HBJ.out.trans (hb5.mono HBJ.out.size))
                  have HB5j := Lib.hid hb5
                  clear hb5
                  have hnb : ncheck t' = big t' := rfl
                  rw [hnb]
                  by_cases hbg : big t' = 0
                  · have HBG := Lib.hid hbg
                    rw [hbg]
                    have hsz : t'.size ≤ 400 := by
                      unfold big at hbg
                      split at hbg
                      · omega
                      · omega
                    clear hbg hnb kh kt kcj
                    have hnr5 := HNRJ.out.later HB5j.out
                    have hterm := nterm_calls n' s' HNET.out HREP.out gn g cl t'.size j (var dv) t' F' w5 (Nat.le_refl _) (by omega) HDEN.out HFULL.out hnr5 (by omega)
                    have HTERM := Lib.hid hterm
                    clear hnr5 hterm
                    go_wp2_with fail
                    refine HTERM.out.mono ?_
                    rintro e w6 ⟨vf, rfl, ⟨xf, yf, rfl, hf⟩, hb6⟩
                    obtain ⟨rfl, hif, hsf⟩ := hf.parts
                    obtain ⟨Af, cf, rfl, -, -⟩ := hsf.shapeT
                    have hz5 := HB5.out.size
                    have hz6 := hb6.size
                    have hz4 := HBJ.out.size
                    have hz5j := HB5j.out.size
                    have hb7 : Below w6.heap.size w6 (w6.alloc (.cells #[.int .i64 (dv : Int), .int .i64 t'.head, .slice Af t'.args.length cf] 39)) := (Below.refl _ _).alloc (Nat.le_refl _) _
                    have hrow : Row KB (w5.heap.size ≤ ·) (w6.alloc (.cells #[.int .i64 (dv : Int), .int .i64 t'.head, .slice Af t'.args.length cf] 39)) [(dv, t')] w6.heap.size 0 := row_of_block (K := KB) ⟨_, _, rfl, hf⟩ _
                    have hbw := HB5j.out.trans (hb6.mono hz5j)
                    have hO7 := HO.out.later (hbw.trans (hb7.mono (by omega)))
                    have hF7 : ∀ k, w5.heap.size ≤ k → k < (w6.alloc (.cells #[.int .i64 (dv : Int), .int .i64 t'.head, .slice Af t'.args.length cf] 39)).heap.size → w4.heap.size ≤ k ∧ some k ≠ (Value.slice Aw acc2.length cw).ownBlock := fun k hk _ => by
                      refine ⟨by omega, fun e => ?_⟩
                      have := (HO.out.block k e.symm).2; omega
                    have HROW := Lib.hid hrow
                    have HO7 := Lib.hid hO7
                    have HF7 := Lib.hid hF7
                    have HBW := Lib.hid (HBJ.out.trans ((hbw.trans (hb7.mono (by omega))).mono hz4))
                    clear hrow hO7 hF7 hbw hb7 hf hsf hb6
                    go_wp2_with (at_builtin; refine wp_append (K := KB) (F := (w4.heap.size ≤ ·)) (F1 := (w5.heap.size ≤ ·)) w4.heap.size rfl (.tmp 102) (.tmp 108) 26 39 (.agg #[.int .i64 0, .int .i64 0, .slice none 0 0]) rfl Try.underlying26 Try.infoB rfl (.slice Aw acc2.length cw) acc2 [(dv, t')] rfl w6.heap.size 0 1 rfl HO7.out HROW.out HF7.out (by have e : (KB).by_ = 40 := rfl; rw [e]; simp only [List.length_cons, List.length_nil]; omega) (by simp; omega) ?_; intro v8 w8 hO8 hg8 hat8 hsh8; obtain ⟨g8, c8, rfl⟩ := hsh8 (by simp); have HO8 := Lib.hid hO8; have HG8 := Lib.hid hg8; clear hO8 hg8 hat8 hsh8)
                    have hb8 : Below w4.heap.size w4 w8 := HBW.out.grown HG8.out (by simp; omega) (fun k e => (HO.out.block k e).1)
                    go_roundg (gk - 1)
                    case rel =>
                      refine ⟨j + 1, acc2 ++ [(dv, t')], by omega, by go_num, by omega, HO8.out, by simp; omega, fun h => absurd h (Pend.used HNET.out HJX.out HHD.out), hb8, [], .inr ⟨Pend.used HNET.out HJX.out HHD.out, rfl⟩, ?_⟩
                      rw [List.nil_append, ← HEE.out, ends_yes HFIN.out HBG.out]
                    case measure => omega
                  · have hE := HEE.out
                    rw [ends_no HFIN.out hbg] at hE
                    have HE := Lib.hid hE
                    clear hE hnb
                    have hbb : (big t' != 0) = true := by simpa using hbg
                    generalize big t' = bg at *
                    have HBG := Lib.hid hbg
                    clear hbg
                    go_wp2_with fail
                    go_ret3
                    have e : Option.map (fun x => x.2) (some (n', s')) = some s' := rfl
                    rw [e, HAL.out, ← HE.out]
                    refine ⟨_, ?_, Sl.nil _ _ _, HB4.out.trans (HB5.out.mono HB4.out.size)⟩
                    have := HBG.out
                    simp [this]
              · have hne : (x.head != -1 - (dv : Int)) = true := by simpa using hh
                have HH := Lib.hid hh
                clear hh
                go_wp2
                go_roundg (gk - 1)
                case rel => exact ⟨j + 1, acc2, by omega, by go_num, by omega, HO.out, hacl2, fun h => HA3.out ((Pend.next HJX.out (.inl HH.out)).2 h), HBJ.out, b, by rw [← Pend.next HJX.out (.inl HH.out)]; exact HBB.out, HE.out⟩
                case measure => omega
            · have hje : j = n'.length := by omega
              subst hje
              have hbe : b = [] := by
                rcases hbb with h | h
                · exact absurd h.1 Pend.end_
                · exact h.2
              subst hbe
              rw [List.nil_append] at hE
              have HO2 := Lib.hid hO
              have HE2 := Lib.hid hE
              have HBJ := Lib.hid hBj
              clear hO hE hBj hbb hacl3
              go_wp2
              go_roundg (G - 1)
              case rel => exact ⟨dv + 1, acc2, by omega, by go_num, by omega, HO2.out, hacl2, HBJ.out, HE2.out⟩
              case measure => omega
        · have hde : dv = 256 := by omega
          subst hde
          rw [varsFrom_end] at hE
          simp only [ends] at hE
          generalize hal' : acc.length = al at *
          have HO := Lib.hid hO
          have HE := Lib.hid hE
          have HBI := Lib.hid hBi
          have HALN := Lib.hid hal'
          clear hO hE hBi hal'
          go_wp2
          go_ret3
          have e : Option.map (fun x => x.2) (some (n', s')) = some s' := rfl
          rw [e, HAL.out, ← HE.out]
          refine ⟨_, rfl, HO.out.sl.mono (fun b hb => ?_), HB4.out.trans (HBI.out.mono HB4.out.size)⟩
          rcases hb with h | h
          · exact Nat.le_trans HB4.out.size h
          · exact Nat.le_trans HB4.out.size (HO.out.block b h.symm).1
end Go.Proofs.Ytokhnlhffnidmaa
