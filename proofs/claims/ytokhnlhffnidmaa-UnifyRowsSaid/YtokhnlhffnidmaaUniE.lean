/- The solver's stack of pairs. -/
import Derived.Test.YtokhnlhffnidmaaUniD
namespace Go.Proofs.Ytokhnlhffnidmaa
open Go.RowKit Go.Shelf Elen

theorem Try.infoTT : (Try.prog.info? 70).map (fun i => (i.zero, i.size, i.bytes)) = some (some (.agg #[.int .i64 0, .slice none 0 0, .int .i64 0, .slice none 0 0]), 4, 64) := by kernel_rfl

/-- the stack, in the box sb, its top last -/
structure StkB (F : Nat → Prop) (base sb : Nat) (w : World) (v : Value) (xs : List (T × T)) : Prop where
  cell : w.cell? ⟨sb, 0, none⟩ = some v
  free : w.frozen? ⟨sb, 0, none⟩ = false
  own : Own KTT 70 F base w v xs
  apart : v.ownBlock ≠ some sb
theorem StkB.same {F S : Nat → Prop} {base sb : Nat} {w w1 : World} {v : Value} {xs : List (T × T)} (h : StkB F base sb w v xs) (hs : SameOn S w w1) (hF : ∀ k, F k → S k) (h1 : S sb) (h2 : ∀ k, v.ownBlock = some k → S k) : StkB F base sb w1 v xs where
  cell := hs.cell h1 h.cell
  free := (World.frozen?_of_block (a := ⟨sb, 0, none⟩) (hs.block sb (World.block_lt_of_cell? w _ h.cell) h1)).trans h.free
  own := h.own.same hs hF h2
  apart := h.apart

def PutcPost (F : Nat → Prop) (base sb : Nat) (w : World) (v : Value) (xs : List (T × T)) (e : Ending) (w' : World) : Prop :=
  (∃ r, e = .returned r) ∧ ∃ v', StkB F base sb w' v' xs ∧ SameOn (fun k => k ≠ sb ∧ v.ownBlock ≠ some k) w w' ∧ ∀ k, v'.ownBlock = some k → v.ownBlock = some k ∨ w.heap.size ≤ k

set_option maxRecDepth 100000 in
set_option maxHeartbeats 1000000 in
theorem putc_calls (F : Nat → Prop) (base sb : Nat) (la lb : List T) (va vb v : Value) (xs : List (T × T)) (w : World) (hF : ∀ k, F k → k < base) (hsb : ¬ F sb) (hbw : base ≤ w.heap.size) (hl : la.length = lb.length) (ha : Sl KT F w la va) (hb : Sl KT F w lb vb) (hst : StkB F base sb w v xs) (hlen : xs.length + la.length ≤ 1000000000) :
    Calls Try.prog 29 #[va, vb, .pointer (some ⟨sb, 0, none⟩)] w (PutcPost F base sb w v (xs ++ (la.zip lb).reverse)) := by
  obtain ⟨A, ca, rfl, -, -⟩ := ha.shapeT
  obtain ⟨B, cb, rfl, -, -⟩ := hb.shapeT
  rw [← hl]
  rw [← hl] at hb
  have HA := Lib.hid ha
  have HB := Lib.hid hb
  have HF := Lib.hid hF
  have HSB := Lib.hid hsb
  have HL := Lib.hid hl
  have HST := Lib.hid hst
  have HLEN := Lib.hid hlen
  have HBW := Lib.hid hbw
  have hla : la.length ≤ 1000000000 := by omega
  clear ha hb hF hsb hl hst hlen hbw
  go_enter Try.func29, Try.ntmps29
  go_wp2_with fail
  go_loopg [5] (la.length + 1) (fun k i wr => ∃ (d : Nat) (v1 : Value), d + 1 = k ∧ d ≤ la.length ∧ i = .int .i64 ((d : Int) - 1) ∧ StkB F base sb wr v1 (xs ++ (la.zip lb).reverse.take (la.length - d)) ∧ SameOn (fun k => k ≠ sb ∧ v.ownBlock ≠ some k) w wr ∧ ∀ k, v1.ownBlock = some k → v.ownBlock = some k ∨ w.heap.size ≤ k)
  case atStart => exact ⟨la.length, v, rfl, Nat.le_refl _, rfl, by simpa using HST.out, SameOn.refl _ _, fun k h => .inl h⟩
  case round =>
    obtain ⟨d, v1, hdk, hdl, rfl, hst, hsm, hob⟩ := hrel
    have HST1 := Lib.hid hst
    have HSM := Lib.hid hsm
    have HOB := Lib.hid hob
    clear hst hsm hob
    cases d with
    | zero =>
      go_wp2
      go_end0
      refine ⟨⟨_, rfl⟩, v1, ?_, HSM.out, HOB.out⟩
      have := HST1.out
      rwa [List.take_of_length_le (by simp; have := HL.out; omega)] at this
    | succ d =>
      have e1 : ((d + 1 : Nat) : Int) - 1 = (d : Int) := by omega
      rw [e1]
      clear e1
      have hd : d < la.length := by omega
      have hdb : d < lb.length := by have := HL.out; omega
      have hFs : ∀ k, F k → k ≠ sb ∧ v.ownBlock ≠ some k := fun k hk => ⟨fun e => HSB.out (e ▸ hk), fun e => by have := (HST.out.own.block k e).1; have := HF.out k hk; omega⟩
      have ha1 := HA.out.same HSM.out hFs
      have hb1 := HB.out.same HSM.out hFs
      obtain ⟨b1, o1, rfl, -, -, hca⟩ := ha1.cells (by omega)
      obtain ⟨b2, o2, rfl, -, -, hcb⟩ := hb1.cells (by omega)
      obtain ⟨x1, y1, ka0, ka1, hx1⟩ := hca d hd
      obtain ⟨x2, y2, kb0, kb1, hx2⟩ := hcb d hdb
      obtain ⟨rfl, hi1, hs1⟩ := hx1.parts
      obtain ⟨A1, c1, rfl, -, -⟩ := hs1.shapeT
      obtain ⟨rfl, hi2, hs2⟩ := hx2.parts
      obtain ⟨A2, c2, rfl, -, -⟩ := hs2.shapeT
      have ks := HST1.out.cell
      obtain ⟨Av, cv, rfl⟩ := HST1.out.own.shape
      have htk : (la.zip lb).reverse.take (la.length - (d + 1)) ++ [(la[d], lb[d])] = (la.zip lb).reverse.take (la.length - d) := by
        have hz : (la.zip lb).length = la.length := by simp; have := HL.out; omega
        rw [show la.length - d = (la.length - (d + 1)) + 1 from by omega, List.take_add_one, List.getElem?_eq_getElem (by rw [List.length_reverse, hz]; omega)]
        simp only [List.getElem_reverse, Option.toList_some, List.getElem_zip]
        congr 2
        simp only [hz, show la.length - 1 - (la.length - (d + 1)) = d from by omega]
      have hxl : (xs ++ (la.zip lb).reverse.take (la.length - (d + 1))).length ≤ 1000000000 := by
        have := HLEN.out; simp; omega
      generalize hXS : (xs ++ (la.zip lb).reverse.take (la.length - (d + 1))) = ys at *
      have HTK : Hid (xs ++ (la.zip lb).reverse.take (la.length - d) = ys ++ [(la[d], lb[d])]) := by
        have : xs ++ (la.zip lb).reverse.take (la.length - d) = ys ++ [(la[d], lb[d])] := by rw [← hXS, List.append_assoc, htk]
        exact this
      generalize hny : ys.length = ny at *
      have HNY := Lib.hid hny
      have HX1 := Lib.hid hx1
      have HX2 := Lib.hid hx2
      have HFS := Lib.hid hFs
      clear ha1 hb1 hca hcb hx1 hx2 hs1 hs2 htk hXS hny hFs
      go_wp2_with fail
      refine wp_mix 11 25 (fun ix W u => match ix with | 0 => u = .slice Av ny cv | 1 => u = .slice (some ⟨b1, o1, none⟩) la.length ca | 2 => u = .int .i64 (d : Int) | 3 => u = .pointer (some ⟨b1, o1 + d * 2, none⟩) | 4 => u = .agg #[.int .i64 la[d].head, .slice A1 la[d].args.length c1] | 5 => u = .slice (some ⟨b2, o2, none⟩) la.length cb | 6 => u = .int .i64 (d : Int) | 7 => u = .pointer (some ⟨b2, o2 + d * 2, none⟩) | 8 => u = .agg #[.int .i64 lb[d].head, .slice A2 lb[d].args.length c2] | 9 => u = .agg #[.int .i64 la[d].head, .slice A1 la[d].args.length c1, .int .i64 lb[d].head, .slice A2 lb[d].args.length c2] | 10 => ∃ b, u = .slice (some ⟨b, 0, none⟩) 1 1 ∧ Row KTT F W [(la[d], lb[d])] b 0 | _ => True) (by kernel_rfl) rfl (by decide +kernel) (fun ix W W' u hb h => by match ix, h with | 0, h => exact h | 1, h => exact h | 2, h => exact h | 3, h => exact h | 4, h => exact h | 5, h => exact h | 6, h => exact h | 7, h => exact h | 8, h => exact h | 9, h => exact h | 10, h => exact (by obtain ⟨b, e, hr⟩ := h; exact ⟨b, e, hr.later hb⟩) | _ + 11, h => exact h) ?_ ?_
      · refine goes_cons rfl ?_ (goes_cons rfl ?_ (goes_cons rfl ?_ (goes_cons rfl ?_ (goes_cons rfl ?_ (goes_cons rfl ?_ (goes_cons rfl ?_ (goes_cons rfl ?_ (goes_cons rfl ?_ (goes_cons rfl ?_ (goes_cons rfl ?_ (goes_nil)))))))))))
        · intro ρ W hW hc hg hf hbase hdeps
          obtain ⟨hk, -⟩ := bcell hW
          have r2 := hbase 2 (by kernel_rfl)
          clear hbase hdeps
          have kk0 := cell_kept hW ks
          have kk1 := cell_kept hW ka0
          have kk2 := cell_kept hW ka1
          have kk3 := cell_kept hW kb0
          have kk4 := cell_kept hW kb1
          go_simp
          exact ⟨Below.refl _ _, rfl⟩
        · intro ρ W hW hc hg hf hbase hdeps
          obtain ⟨hk, -⟩ := bcell hW
          have r0 := hbase 0 (by kernel_rfl)
          clear hbase hdeps
          have kk0 := cell_kept hW ks
          have kk1 := cell_kept hW ka0
          have kk2 := cell_kept hW ka1
          have kk3 := cell_kept hW kb0
          have kk4 := cell_kept hW kb1
          go_simp
          exact ⟨Below.refl _ _, rfl⟩
        · intro ρ W hW hc hg hf hbase hdeps
          obtain ⟨hk, -⟩ := bcell hW
          have r5 := hbase 5 (by kernel_rfl)
          clear hbase hdeps
          have kk0 := cell_kept hW ks
          have kk1 := cell_kept hW ka0
          have kk2 := cell_kept hW ka1
          have kk3 := cell_kept hW kb0
          have kk4 := cell_kept hW kb1
          go_simp
          exact ⟨Below.refl _ _, rfl⟩
        · intro ρ W hW hc hg hf hbase hdeps
          obtain ⟨hk, -⟩ := bcell hW
          have r14 : ρ (.tmp 14) = .slice (some ⟨b1, o1, none⟩) la.length ca := hdeps 1 _ 14 (by kernel_rfl) rfl rfl
          have r15 : ρ (.tmp 15) = .int .i64 (d : Int) := hdeps 2 _ 15 (by kernel_rfl) rfl rfl
          clear hbase hdeps
          have kk0 := cell_kept hW ks
          have kk1 := cell_kept hW ka0
          have kk2 := cell_kept hW ka1
          have kk3 := cell_kept hW kb0
          have kk4 := cell_kept hW kb1
          go_simp
          exact ⟨Below.refl _ _, rfl⟩
        · intro ρ W hW hc hg hf hbase hdeps
          obtain ⟨hk, -⟩ := bcell hW
          have r16 : ρ (.tmp 16) = .pointer (some ⟨b1, o1 + d * 2, none⟩) := hdeps 3 _ 16 (by kernel_rfl) rfl rfl
          clear hbase hdeps
          have kk0 := cell_kept hW ks
          have kk1 := cell_kept hW ka0
          have kk2 := cell_kept hW ka1
          have kk3 := cell_kept hW kb0
          have kk4 := cell_kept hW kb1
          go_simp
          exact ⟨Below.refl _ _, rfl⟩
        · intro ρ W hW hc hg hf hbase hdeps
          obtain ⟨hk, -⟩ := bcell hW
          have r1 := hbase 1 (by kernel_rfl)
          clear hbase hdeps
          have kk0 := cell_kept hW ks
          have kk1 := cell_kept hW ka0
          have kk2 := cell_kept hW ka1
          have kk3 := cell_kept hW kb0
          have kk4 := cell_kept hW kb1
          go_simp
          exact ⟨Below.refl _ _, rfl⟩
        · intro ρ W hW hc hg hf hbase hdeps
          obtain ⟨hk, -⟩ := bcell hW
          have r5 := hbase 5 (by kernel_rfl)
          clear hbase hdeps
          have kk0 := cell_kept hW ks
          have kk1 := cell_kept hW ka0
          have kk2 := cell_kept hW ka1
          have kk3 := cell_kept hW kb0
          have kk4 := cell_kept hW kb1
          go_simp
          exact ⟨Below.refl _ _, rfl⟩
        · intro ρ W hW hc hg hf hbase hdeps
          obtain ⟨hk, -⟩ := bcell hW
          have r18 : ρ (.tmp 18) = .slice (some ⟨b2, o2, none⟩) la.length cb := hdeps 5 _ 18 (by kernel_rfl) rfl rfl
          have r19 : ρ (.tmp 19) = .int .i64 (d : Int) := hdeps 6 _ 19 (by kernel_rfl) rfl rfl
          clear hbase hdeps
          have kk0 := cell_kept hW ks
          have kk1 := cell_kept hW ka0
          have kk2 := cell_kept hW ka1
          have kk3 := cell_kept hW kb0
          have kk4 := cell_kept hW kb1
          go_simp
          exact ⟨Below.refl _ _, rfl⟩
        · intro ρ W hW hc hg hf hbase hdeps
          obtain ⟨hk, -⟩ := bcell hW
          have r20 : ρ (.tmp 20) = .pointer (some ⟨b2, o2 + d * 2, none⟩) := hdeps 7 _ 20 (by kernel_rfl) rfl rfl
          clear hbase hdeps
          have kk0 := cell_kept hW ks
          have kk1 := cell_kept hW ka0
          have kk2 := cell_kept hW ka1
          have kk3 := cell_kept hW kb0
          have kk4 := cell_kept hW kb1
          go_simp
          exact ⟨Below.refl _ _, rfl⟩
        · intro ρ W hW hc hg hf hbase hdeps
          obtain ⟨hk, -⟩ := bcell hW
          have r17 : ρ (.tmp 17) = .agg #[.int .i64 la[d].head, .slice A1 la[d].args.length c1] := hdeps 4 _ 17 (by kernel_rfl) rfl rfl
          have r21 : ρ (.tmp 21) = .agg #[.int .i64 lb[d].head, .slice A2 lb[d].args.length c2] := hdeps 8 _ 21 (by kernel_rfl) rfl rfl
          clear hbase hdeps
          have kk0 := cell_kept hW ks
          have kk1 := cell_kept hW ka0
          have kk2 := cell_kept hW ka1
          have kk3 := cell_kept hW kb0
          have kk4 := cell_kept hW kb1
          go_simp
          exact ⟨Below.refl _ _, rfl⟩
        · intro ρ W hW hc hg hf hbase hdeps
          obtain ⟨hk, -⟩ := bcell hW
          have r22 : ρ (.tmp 22) = .agg #[.int .i64 la[d].head, .slice A1 la[d].args.length c1, .int .i64 lb[d].head, .slice A2 lb[d].args.length c2] := hdeps 9 _ 22 (by kernel_rfl) rfl rfl
          clear hbase hdeps
          have kk0 := cell_kept hW ks
          have kk1 := cell_kept hW ka0
          have kk2 := cell_kept hW ka1
          have kk3 := cell_kept hW kb0
          have kk4 := cell_kept hW kb1
          go_simp
          exact ⟨(Below.refl _ _).alloc (Nat.le_refl _) _, _, rfl, row_of_block (K := KTT) ⟨_, _, _, _, rfl, HX1.out.later hW, HX2.out.later hW⟩ _⟩
      · intro us W3 hW3 hus
        have hu0 : us 0 = .slice Av ny cv := hus 0 (by decide)
        have hu1 : us 1 = .slice (some ⟨b1, o1, none⟩) la.length ca := hus 1 (by decide)
        have hu2 : us 2 = .int .i64 (d : Int) := hus 2 (by decide)
        have hu3 : us 3 = .pointer (some ⟨b1, o1 + d * 2, none⟩) := hus 3 (by decide)
        have hu4 : us 4 = .agg #[.int .i64 la[d].head, .slice A1 la[d].args.length c1] := hus 4 (by decide)
        have hu5 : us 5 = .slice (some ⟨b2, o2, none⟩) la.length cb := hus 5 (by decide)
        have hu6 : us 6 = .int .i64 (d : Int) := hus 6 (by decide)
        have hu7 : us 7 = .pointer (some ⟨b2, o2 + d * 2, none⟩) := hus 7 (by decide)
        have hu8 : us 8 = .agg #[.int .i64 lb[d].head, .slice A2 lb[d].args.length c2] := hus 8 (by decide)
        have hu9 : us 9 = .agg #[.int .i64 la[d].head, .slice A1 la[d].args.length c1, .int .i64 lb[d].head, .slice A2 lb[d].args.length c2] := hus 9 (by decide)
        have hu10 : (fun u W => ∃ b, u = .slice (some ⟨b, 0, none⟩) 1 1 ∧ Row KTT F W [(la[d], lb[d])] b 0) (us 10) W3 := hus 10 (by decide)
        dsimp only at hu10
        clear hus
        simp only [List.drop_succ_cons, List.drop_zero, List.take_succ_cons, List.take_zero, fill, Act.put, List.setIfInBounds_toArray, List.set_cons_succ, List.set_cons_zero, hu0, hu1, hu2, hu3, hu4, hu5, hu6, hu7, hu8, hu9]
        clear hu0 hu1 hu2 hu3 hu4 hu5 hu6 hu7 hu8 hu9
        generalize us 10 = u10 at *
        obtain ⟨bn, rfl, hrow⟩ := hu10
        have hst3 := HST1.out.same (S := fun _ => True) (.of_new hW3) (fun _ _ => trivial) trivial (fun _ _ => trivial)
        have hz3 := hW3.size
        have hzw := HSM.out.size
        refine wp_append (K := KTT) (F := F) (F1 := F) base ?a1 (.tmp 13) (.tmp 23) 68 70 (.agg #[.int .i64 0, .slice none 0 0, .int .i64 0, .slice none 0 0]) ?a2 Try.underlying68 Try.infoTT ?a3 (.slice Av ny cv) ys [(la[d], lb[d])] ?a4 bn 0 1 ?a5 hst3.own hrow (fun k h1 h2 => ⟨h1, fun e => ?a7⟩) ?a6 (by have := HBW.out; omega) ?_
        case a1 => rfl
        case a2 => rfl
        case a3 => rfl
        case a4 => rfl
        case a5 => rfl
        case a6 =>
          have e : (KTT).by_ = 64 := rfl
          rw [e, HNY.out]
          simp only [List.length_cons, List.length_nil]; omega
        case a7 => have := (hst3.own.block k e.symm).1; have := HF.out k h1; omega
        · intro v4 w4 hO4 hg4 hat4 hsh4
          obtain ⟨g4, c4, rfl⟩ := hsh4 (by simp)
          obtain ⟨k4s, k4f⟩ : w4.cell? ⟨sb, 0, none⟩ = some (.slice Av ny cv) ∧ w4.frozen? ⟨sb, 0, none⟩ = false := by
            have hb := hg4.block sb (World.block_lt_of_cell? W3 _ hst3.cell) (fun e => hst3.apart e.symm)
            exact ⟨(World.cell?_of_block (a := ⟨sb, 0, none⟩) hb).trans hst3.cell, (World.frozen?_of_block (a := ⟨sb, 0, none⟩) hb).trans hst3.free⟩
          have HO4 := Lib.hid hO4
          have HG4 := Lib.hid hg4
          have HAT4 := Lib.hid hat4
          have HST3 := Lib.hid hst3
          have HW3 := Lib.hid hW3
          have hsbw : sb < wr.heap.size := World.block_lt_of_cell? wr _ ks
          have HSBW := Lib.hid hsbw
          clear hO4 hg4 hat4 hsh4 hst3 hrow hW3 ks ka0 ka1 kb0 kb1 hsbw
          go_wp2
          have hat := HAT4.out
          have hap := HST3.out.apart
          have hobk := HOB.out
          generalize hob : (Value.slice Av ny cv).ownBlock = ob at *
          have hg4b : (Value.slice (some ⟨g4, 0, none⟩) (ys.length + [(la[d], lb[d])].length) c4).ownBlock = some g4 := rfl
          rw [hg4b] at hat
          have hg4s : g4 ≠ sb ∧ (v.ownBlock = some g4 ∨ w.heap.size ≤ g4) := by
            rcases hat with h | h
            · exact ⟨fun e => hap (by rw [← h, e]), hobk g4 h.symm⟩
            · cases h
              have := HSBW.out
              exact ⟨by omega, .inr (by omega)⟩
          have hs5 : SameOn (fun k => k ≠ sb ∧ ob ≠ some k) W3 (w4.setCell ⟨sb, 0, none⟩ (.slice (some ⟨g4, 0, none⟩) (ys.length + 1) c4)) :=
            (SameOn.of_grown HG4.out (fun k e h => h.2 e)).trans (SameOn.set _ ⟨sb, 0, none⟩ _ (fun h => h.1 rfl))
          go_roundg (d + 1)
          case rel =>
            refine ⟨d, .slice (some ⟨g4, 0, none⟩) (ys.length + 1) c4, rfl, by omega, rfl, ?_, ?_, fun k e => ?_⟩
            · rw [HTK.out]
              refine ⟨World.cell?_setCell_same' _ _ _ (by rw [k4s]; rfl), by rw [World.frozen?_setCell]; exact k4f, ?_, fun e => hg4s.1 (by cases e; rfl)⟩
              exact HO4.out.same (S := fun k => k ≠ sb) (SameOn.set _ ⟨sb, 0, none⟩ _ (fun h => h rfl)) (fun k hk => (HFS.out k hk).1) (fun k e => by cases e; exact hg4s.1)
            · exact HSM.out.join ((SameOn.of_new HW3.out).trans hs5) (fun k hk hk' => ⟨hk'.1, fun e => by rcases hobk k e with h | h; exact hk'.2 h; omega⟩)
            · cases e; exact hg4s.2
          case measure => omega
end Go.Proofs.Ytokhnlhffnidmaa
