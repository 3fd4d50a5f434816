/- The net's sizes and depths. -/
import Derived.Test.YtokhnlhffnidmaaRefC
namespace Go.Proofs.Ytokhnlhffnidmaa
open Go.RowKit Elen

/-- what is known so far: numbers -/
def KnownAt (w : World) (bk : Nat) (S : List Nat) : Prop := w.heap[bk]? = some (.cells (S.map fun n : Nat => Value.int .i64 (n : Int)).toArray 3 (0, 0))
theorem KnownAt.cell {w : World} {bk : Nat} {S : List Nat} (h : KnownAt w bk S) {j : Nat} (hj : j < S.length) : w.cell? ⟨bk, j, none⟩ = some (.int .i64 (S[j] : Int)) := by
  simp [World.cell?, show w.heap[bk]? = _ from h, hj]
theorem KnownAt.frozen {w : World} {bk : Nat} {S : List Nat} (h : KnownAt w bk S) (j : Nat) : w.frozen? ⟨bk, j, none⟩ = false := by
  simp [World.frozen?, show w.heap[bk]? = _ from h]
theorem KnownAt.set {w : World} {bk : Nat} {S : List Nat} (h : KnownAt w bk S) (j n : Nat) : KnownAt (w.setCell ⟨bk, j, none⟩ (.int .i64 (n : Int))) bk (S.set j n) := by
  unfold KnownAt at *
  simp only [World.setCell, Array.getElem?_modify, if_pos, h, Option.map_some]
  simp [List.map_set]
/-- the parts under one that is not bound, written out -/
theorem under_of {N : List Nd} {s : Sub} (hn : Net N) (hr : Rep N s) {j : Nat} {nd : Nd} {u t' : T} (hj : N[j]? = some nd) (hto : nd.to < 0) (hd : Den N j u) (hf : Full s u t') :
    ∃ ls : List T, nd.args.length = ls.length ∧ (∀ i (hi : i < nd.args.length) (hi' : i < ls.length), ∃ ti, Den N nd.args[i] ti ∧ Full s ti ls[i] ∧ ls[i].size < t'.size) ∧ t' = .mk nd.head ls := by
  cases hd with
  | @mk _ nd' ts e0 hl hk =>
    rw [hj] at e0; cases e0
    cases hf with
    | free q1 q2 => exact ⟨[], by rw [hn.leaf j nd hj q1]; rfl, fun i hi hi' => absurd hi' (by simp), rfl⟩
    | bound q1 q2 => rw [hr.free j nd hj q1 hto] at q2; cases q2
    | @node _ _ ls q1 q2 q3 => exact ⟨ls, by omega, fun i hi hi' => ⟨ts[i]'(by omega), hk i hi (by omega), q3 i (by omega) hi', T.size_lt (List.getElem_mem _)⟩, rfl⟩

/-- what is known is so -/
def SizeInv (N : List Nd) (s : Sub) (S : List Nat) : Prop := ∀ y k ty fy, S[y]? = some k → k ≠ 0 → Den N y ty → Full s ty fy → k = min fy.size 401
def SizePost (N : List Nd) (s : Sub) (t' : T) (bk : Nat) (S : List Nat) (w : World) (e : Ending) (w' : World) : Prop :=
  ∃ S' : List Nat, e = .returned (.int .i64 ((min t'.size 401 : Nat) : Int)) ∧ w.grownBy w' (some bk) ∧ KnownAt w' bk S' ∧ S'.length = S.length ∧ SizeInv N s S'

set_option maxRecDepth 100000 in
set_option maxHeartbeats 2000000 in
theorem nsize_calls (N : List Nd) (s : Sub) (hn : Net N) (hr : Rep N s) (gn g cap bk : Nat) :
    ∀ (z x : Nat) (t t' : T) (S : List Nat) (w : World), t'.size ≤ z → Den N x t → Full s t t' → NetR (· ≠ bk) w gn g cap N → KnownAt w bk S → S.length = N.length → SizeInv N s S →
    Calls Try.prog 40 #[.pointer (some ⟨gn, 0, none⟩), .int .i64 (x : Int), .slice (some ⟨bk, 0, none⟩) N.length N.length] w (SizePost N s t' bk S w) := by
  intro z
  induction z with
  | zero => intro x t t' S w h; have := T.size_pos t'; omega
  | succ z ih =>
  intro x t t' S w hz hd hf hN hS hSl hI
  obtain ⟨j, u, nd, hb, hdj, hwk, hfu, hnj, hto, hhd⟩ := Beh.of_full hn hr hf hd
  obtain ⟨k, hbk⟩ := hb.count
  have HN := Lib.hid hN
  have HS := Lib.hid hS
  have HK := Lib.hid hbk
  have HI := Lib.hid hI
  have HSL := Lib.hid hSl
  have IH := Lib.hid ih
  have HT := Lib.hid hn.tos
  have HZ := Lib.hid hz
  have hjl : j < N.length := (List.getElem?_eq_some_iff.1 hnj).1
  have HJ := Lib.hid hnj
  have HDJ := Lib.hid hdj
  have HFU := Lib.hid hfu
  have hnl := hN.2.1
  have hto' := Lib.hid hto
  clear hN hS hI hSl hbk ih hz hnj hdj hfu hd hf hwk hb hto hhd
  have hjS : j < S.length := by have := HSL.out; omega
  have hsc := HS.out.cell hjS
  have hSj : S[j]? = some S[j] := List.getElem?_eq_getElem hjS
  have HSJ := Lib.hid hSj
  clear hSj
  go_enter Try.func40, Try.ntmps40
  go_wp2_with fail
  refine (behind_calls _ w gn g cap N HN.out k x j HK.out HT.out).mono ?_
  rintro e w1 ⟨rfl, rfl⟩
  generalize S[j] = sj at *
  by_cases h0 : sj = 0
  · have heq : ((sj : Int) == 0) = true := by simp [h0]
    clear h0
    obtain ⟨hlt, h0, h2, A, c, h1, hal, hargs⟩ := HN.out.get HJ.out
    obtain ⟨ls, hls, hch, hmk⟩ := under_of hn hr HJ.out hto'.out HDJ.out HFU.out
    have HLS := Lib.hid hls
    have HCH := Lib.hid hch
    have HMK := Lib.hid hmk
    clear hls hch hmk hargs h0 h1 h2
    have kc0 := HN.out.1
    go_wp2
    go_loopg [7, 8] (nd.args.length + 1) (fun k o i wr => ∃ (d x : Nat) (S1 : List Nat), d + k = nd.args.length + 1 ∧ i = .int .i64 d ∧ o = .int .i64 (x : Int) ∧ w.grownBy wr (some bk) ∧ KnownAt wr bk S1 ∧ S1.length = N.length ∧ NetR (· ≠ bk) wr gn g cap N ∧
      SizeInv N s S1 ∧ x ≤ 401 ∧ min (x + T.sizeL (ls.drop d)) 401 = min t'.size 401)
    case atStart => exact ⟨0, 1, S, by omega, rfl, rfl, World.grownBy.refl _ _, HS.out, HSL.out, HN.out, HI.out, by omega, by rw [HMK.out]; simp only [List.drop_zero, T.size]; omega⟩
    case round =>
      obtain ⟨d, x', S1, hd, rfl, rfl, hG, hS1, hl1, hN1, hI1, hx, hrl⟩ := hrel
      have HG := Lib.hid hG
      have HS1 := Lib.hid hS1
      have HL1 := Lib.hid hl1
      have HN1 := Lib.hid hN1
      have HI1 := Lib.hid hI1
      have HRL := Lib.hid hrl
      clear hG hS1 hl1 hN1 hI1 hrl hsc kc0
      obtain ⟨-, k0, k2, A1, c1, k1, -, hargs1⟩ := HN1.out.get HJ.out
      have kc := HN1.out.1
      by_cases hdl : d < nd.args.length
      · obtain ⟨b1, o1, rfl, hcell⟩ := hargs1 (by omega)
        have hcd := hcell d hdl
        have hdls : d < ls.length := by have := HLS.out; omega
        obtain ⟨ti, q1, q2, q3⟩ := HCH.out d hdl hdls
        have Q1 := Lib.hid q1
        have Q2 := Lib.hid q2
        have Q3 := Lib.hid q3
        have HSD := Lib.hid (T.sizeL_drop hdls)
        clear hargs1 hcell q1 q2 q3
        go_wp2_with fail
        refine (IH.out _ ti _ S1 wr (by have := Q3.out; have := HZ.out; omega) Q1.out Q2.out HN1.out HS1.out HL1.out HI1.out).mono ?_
        rintro e w2 ⟨S2, rfl, hG2, hS2, hl2, hI2⟩
        have HG2 := Lib.hid (HG.out.trans hG2)
        have HN2 := Lib.hid (HN1.out.grown (by omega) hG2)
        have HS2 := Lib.hid hS2
        have HL2 := Lib.hid (hl2.trans HL1.out)
        have HI2 := Lib.hid hI2
        have hcs : min ls[d].size 401 ≤ 401 := Nat.min_le_right _ _
        generalize hq : min ls[d].size 401 = q at *
        have HQ := Lib.hid hq
        clear hG2 hS2 hl2 hI2 k0 k1 k2 kc hq
        go_wp2
        all_goals
          go_roundg (gk - 1)
          case rel => exact ⟨d + 1, min (x' + q) 401, S2, by omega, by go_num, by congr 1; omega, HG2.out, HS2.out, HL2.out, HN2.out, HI2.out, by omega, by have := HQ.out; rw [← HRL.out, HSD.out]; omega⟩
          case measure => omega
      · have hfin : Hid (x' = min t'.size 401) := by
          have : x' = min t'.size 401 := by
            rw [← HRL.out, List.drop_eq_nil_of_le (by have := HLS.out; omega)]; simp only [T.sizeL]; omega
          exact this
        have hset := HS1.out.set j (x')
        have hk1 := HS1.out.cell (j := j) (by have := HL1.out; omega)
        have hk2 := HS1.out.frozen j
        have HSET := Lib.hid hset
        have hgx := grownBy_setCell wr ⟨bk, j, none⟩ (.int .i64 ((x' : Nat) : Int))
        have HGX := Lib.hid (HG.out.trans hgx)
        clear hset hgx
        clear kc k0 k1 k2 hargs1
        have hle : x' ≤ 401 := hx
        · skip
          have e : ((x' : Nat) : Int) = (x' : Int) := by omega
          rw [e] at HSET HGX
          have HE := Lib.hid e
          clear e
          have kc := HN1.out.1
          obtain ⟨-, -, -, A2, c2, k1, -, -⟩ := HN1.out.get HJ.out
          go_wp2
          go_ret
          refine ⟨S1.set j (x'), ?_, HGX.out, HSET.out, by rw [List.length_set, HL1.out, HSL.out], fun y k ty fy hy hk hdy hfy => ?_⟩
          · rw [← hfin.out]; first | exact rfl | exact ret_int HE.out.symm
          · rw [List.getElem?_set] at hy
            by_cases cj : j = y
            · subst cj
              rw [if_pos rfl, if_pos (by have := HL1.out; omega)] at hy
              cases hy
              have e1 := hdy.det HDJ.out
              subst e1
              have e2 := hfy.det HFU.out
              subst e2
              exact hfin.out
            · rw [if_neg cj] at hy
              exact HI1.out y k ty fy hy hk hdy hfy
  · have hne : ((sj : Int) == 0) = false := by simp; omega
    have hres : Hid (sj = min t'.size 401) := HI.out j sj u t' HSJ.out h0 HDJ.out HFU.out
    clear h0
    go_wp2
    go_ret
    refine ⟨S, ?_, World.grownBy.refl _ _, HS.out, rfl, HI.out⟩
    rw [← hres.out]; rfl

/-- what is known is so -/
def DepthInv (N : List Nd) (s : Sub) (S : List Nat) : Prop := ∀ y k ty fy, S[y]? = some k → k ≠ 0 → Den N y ty → Full s ty fy → k = min fy.depth 41
def DepthPost (N : List Nd) (s : Sub) (t' : T) (bk : Nat) (S : List Nat) (w : World) (e : Ending) (w' : World) : Prop :=
  ∃ S' : List Nat, e = .returned (.int .i64 ((min t'.depth 41 : Nat) : Int)) ∧ w.grownBy w' (some bk) ∧ KnownAt w' bk S' ∧ S'.length = S.length ∧ DepthInv N s S'

set_option maxRecDepth 100000 in
set_option maxHeartbeats 2000000 in
theorem ndepth_calls (N : List Nd) (s : Sub) (hn : Net N) (hr : Rep N s) (gn g cap bk : Nat) :
    ∀ (z x : Nat) (t t' : T) (S : List Nat) (w : World), t'.size ≤ z → Den N x t → Full s t t' → NetR (· ≠ bk) w gn g cap N → KnownAt w bk S → S.length = N.length → DepthInv N s S →
    Calls Try.prog 41 #[.pointer (some ⟨gn, 0, none⟩), .int .i64 (x : Int), .slice (some ⟨bk, 0, none⟩) N.length N.length] w (DepthPost N s t' bk S w) := by
  intro z
  induction z with
  | zero => intro x t t' S w h; have := T.size_pos t'; omega
  | succ z ih =>
  intro x t t' S w hz hd hf hN hS hSl hI
  obtain ⟨j, u, nd, hb, hdj, hwk, hfu, hnj, hto, hhd⟩ := Beh.of_full hn hr hf hd
  obtain ⟨k, hbk⟩ := hb.count
  have HN := Lib.hid hN
  have HS := Lib.hid hS
  have HK := Lib.hid hbk
  have HI := Lib.hid hI
  have HSL := Lib.hid hSl
  have IH := Lib.hid ih
  have HT := Lib.hid hn.tos
  have HZ := Lib.hid hz
  have hjl : j < N.length := (List.getElem?_eq_some_iff.1 hnj).1
  have HJ := Lib.hid hnj
  have HDJ := Lib.hid hdj
  have HFU := Lib.hid hfu
  have hnl := hN.2.1
  have hto' := Lib.hid hto
  clear hN hS hI hSl hbk ih hz hnj hdj hfu hd hf hwk hb hto hhd
  have hjS : j < S.length := by have := HSL.out; omega
  have hsc := HS.out.cell hjS
  have hSj : S[j]? = some S[j] := List.getElem?_eq_getElem hjS
  have HSJ := Lib.hid hSj
  clear hSj
  go_enter Try.func41, Try.ntmps41
  go_wp2_with fail
  refine (behind_calls _ w gn g cap N HN.out k x j HK.out HT.out).mono ?_
  rintro e w1 ⟨rfl, rfl⟩
  generalize S[j] = sj at *
  by_cases h0 : sj = 0
  · have heq : ((sj : Int) == 0) = true := by simp [h0]
    clear h0
    obtain ⟨hlt, h0, h2, A, c, h1, hal, hargs⟩ := HN.out.get HJ.out
    obtain ⟨ls, hls, hch, hmk⟩ := under_of hn hr HJ.out hto'.out HDJ.out HFU.out
    have HLS := Lib.hid hls
    have HCH := Lib.hid hch
    have HMK := Lib.hid hmk
    clear hls hch hmk hargs h0 h1 h2
    have kc0 := HN.out.1
    go_wp2
    go_loopg [7, 8] (nd.args.length + 1) (fun k o i wr => ∃ (d x : Nat) (S1 : List Nat), d + k = nd.args.length + 1 ∧ i = .int .i64 d ∧ o = .int .i64 (x : Int) ∧ w.grownBy wr (some bk) ∧ KnownAt wr bk S1 ∧ S1.length = N.length ∧ NetR (· ≠ bk) wr gn g cap N ∧
      DepthInv N s S1 ∧ x ≤ 41 ∧ min (max x (T.depthL (ls.drop d)) + 1) 41 = min t'.depth 41)
    case atStart => exact ⟨0, 0, S, by omega, rfl, rfl, World.grownBy.refl _ _, HS.out, HSL.out, HN.out, HI.out, by omega, by rw [HMK.out]; simp only [List.drop_zero, T.depth]; omega⟩
    case round =>
      obtain ⟨d, x', S1, hd, rfl, rfl, hG, hS1, hl1, hN1, hI1, hx, hrl⟩ := hrel
      have HG := Lib.hid hG
      have HS1 := Lib.hid hS1
      have HL1 := Lib.hid hl1
      have HN1 := Lib.hid hN1
      have HI1 := Lib.hid hI1
      have HRL := Lib.hid hrl
      clear hG hS1 hl1 hN1 hI1 hrl hsc kc0
      obtain ⟨-, k0, k2, A1, c1, k1, -, hargs1⟩ := HN1.out.get HJ.out
      have kc := HN1.out.1
      by_cases hdl : d < nd.args.length
      · obtain ⟨b1, o1, rfl, hcell⟩ := hargs1 (by omega)
        have hcd := hcell d hdl
        have hdls : d < ls.length := by have := HLS.out; omega
        obtain ⟨ti, q1, q2, q3⟩ := HCH.out d hdl hdls
        have Q1 := Lib.hid q1
        have Q2 := Lib.hid q2
        have Q3 := Lib.hid q3
        have HSD := Lib.hid (T.depthL_drop hdls)
        clear hargs1 hcell q1 q2 q3
        go_wp2_with fail
        refine (IH.out _ ti _ S1 wr (by have := Q3.out; have := HZ.out; omega) Q1.out Q2.out HN1.out HS1.out HL1.out HI1.out).mono ?_
        rintro e w2 ⟨S2, rfl, hG2, hS2, hl2, hI2⟩
        have HG2 := Lib.hid (HG.out.trans hG2)
        have HN2 := Lib.hid (HN1.out.grown (by omega) hG2)
        have HS2 := Lib.hid hS2
        have HL2 := Lib.hid (hl2.trans HL1.out)
        have HI2 := Lib.hid hI2
        have hcs : min ls[d].depth 41 ≤ 41 := Nat.min_le_right _ _
        generalize hq : min ls[d].depth 41 = q at *
        have HQ := Lib.hid hq
        clear hG2 hS2 hl2 hI2 k0 k1 k2 kc hq
        go_wp2
        all_goals
          go_roundg (gk - 1)
          case rel => exact ⟨d + 1, max x' q, S2, by omega, by go_num, by congr 1; omega, HG2.out, HS2.out, HL2.out, HN2.out, HI2.out, by omega, by have := HQ.out; rw [← HRL.out, HSD.out]; omega⟩
          case measure => omega
      · have hfin : Hid (min (x' + 1) 41 = min t'.depth 41) := by
          have : min (x' + 1) 41 = min t'.depth 41 := by
            rw [← HRL.out, List.drop_eq_nil_of_le (by have := HLS.out; omega)]; simp only [T.depthL]; omega
          exact this
        have hset := HS1.out.set j (min (x' + 1) 41)
        have hk1 := HS1.out.cell (j := j) (by have := HL1.out; omega)
        have hk2 := HS1.out.frozen j
        have HSET := Lib.hid hset
        have hgx := grownBy_setCell wr ⟨bk, j, none⟩ (.int .i64 ((min (x' + 1) 41 : Nat) : Int))
        have HGX := Lib.hid (HG.out.trans hgx)
        clear hset hgx
        clear kc k0 k1 k2 hargs1
        rcases Nat.lt_or_ge 41 (x' + 1) with hle | hle
        · have e : ((min (x' + 1) 41 : Nat) : Int) = (41 : Int) := by omega
          rw [e] at HSET HGX
          have HE := Lib.hid e
          clear e
          have kc := HN1.out.1
          obtain ⟨-, -, -, A2, c2, k1, -, -⟩ := HN1.out.get HJ.out
          go_wp2
          go_ret
          refine ⟨S1.set j (min (x' + 1) 41), ?_, HGX.out, HSET.out, by rw [List.length_set, HL1.out, HSL.out], fun y k ty fy hy hk hdy hfy => ?_⟩
          · rw [← hfin.out]; first | exact rfl | exact ret_int HE.out.symm
          · rw [List.getElem?_set] at hy
            by_cases cj : j = y
            · subst cj
              rw [if_pos rfl, if_pos (by have := HL1.out; omega)] at hy
              cases hy
              have e1 := hdy.det HDJ.out
              subst e1
              have e2 := hfy.det HFU.out
              subst e2
              exact hfin.out
            · rw [if_neg cj] at hy
              exact HI1.out y k ty fy hy hk hdy hfy
        · have e : ((min (x' + 1) 41 : Nat) : Int) = (x' : Int) + 1 := by omega
          rw [e] at HSET HGX
          have HE := Lib.hid e
          clear e
          have kc := HN1.out.1
          obtain ⟨-, -, -, A2, c2, k1, -, -⟩ := HN1.out.get HJ.out
          go_wp2
          go_ret
          refine ⟨S1.set j (min (x' + 1) 41), ?_, HGX.out, HSET.out, by rw [List.length_set, HL1.out, HSL.out], fun y k ty fy hy hk hdy hfy => ?_⟩
          · rw [← hfin.out]; first | exact rfl | exact ret_int HE.out.symm
          · rw [List.getElem?_set] at hy
            by_cases cj : j = y
            · subst cj
              rw [if_pos rfl, if_pos (by have := HL1.out; omega)] at hy
              cases hy
              have e1 := hdy.det HDJ.out
              subst e1
              have e2 := hfy.det HFU.out
              subst e2
              exact hfin.out
            · rw [if_neg cj] at hy
              exact HI1.out y k ty fy hy hk hdy hfy
  · have hne : ((sj : Int) == 0) = false := by simp; omega
    have hres : Hid (sj = min t'.depth 41) := HI.out j sj u t' HSJ.out h0 HDJ.out HFU.out
    clear h0
    go_wp2
    go_ret
    refine ⟨S, ?_, World.grownBy.refl _ _, HS.out, rfl, HI.out⟩
    rw [← hres.out]; rfl
end Go.Proofs.Ytokhnlhffnidmaa
