/- The reference's functions of layer 1, the second part: the check, the order. -/
import Derived.Test.YtokhnlhffnidmaaRefA
import Derived.Test.YtokhnlhffnidmaaMix
namespace Go.Proofs.Ytokhnlhffnidmaa
open Go.RowKit Elen

theorem order_calls (a b : Int) (w : World) : Calls Try.prog 43 #[.int .i64 a, .int .i64 b] w fun e w' => e = .returned (.int .i64 (ord a b)) ∧ w' = w := by
  by_cases h1 : a < b
  · have hf : Hid (ord a b = -1) := by unfold ord; rw [if_pos h1]; exact rfl
    go_enter Try.func43, Try.ntmps43
    go_wp2
    go_ret
    exact ⟨ret_int hf.out.symm, rfl⟩
  · by_cases h2 : b < a
    · have hf : Hid (ord a b = 1) := by unfold ord; rw [if_neg h1, if_pos h2]; exact rfl
      go_enter Try.func43, Try.ntmps43
      go_wp2
      go_ret
      exact ⟨ret_int hf.out.symm, rfl⟩
    · have hf : Hid (ord a b = 0) := by unfold ord; rw [if_neg h1, if_neg h2]; exact rfl
      go_enter Try.func43, Try.ntmps43
      go_wp2
      go_ret
      exact ⟨ret_int hf.out.symm, rfl⟩

set_option maxRecDepth 100000 in
set_option maxHeartbeats 1000000 in
theorem check_calls (t : T) (v : Value) (w : World) (hv : IsV w t v) (hsz : t.size ≤ 1000000000) :
    Calls Try.prog 52 #[v] w fun e w' => e = .returned (.int .i64 t.check) ∧ Below w.heap.size w w' := by
  have HV := Lib.hid hv
  have HS := Lib.hid hsz
  obtain ⟨x, y, rfl, ht⟩ := hv
  clear ht hsz
  have hb0 : Below w.heap.size w (w.alloc (.cells #[x, y] 24)) := (Below.refl _ _).alloc (Nat.le_refl _) _
  have HB0 := Lib.hid hb0
  clear hb0
  have hsz := Lib.hid (T.size_pos t)
  go_enter Try.func52, Try.ntmps52
  go_wp2_with fail
  refine (size_calls t _ _ (HV.out.later HB0.out) HS.out).mono ?_
  rintro e w1 ⟨rfl, hB1⟩
  obtain ⟨hk, -⟩ := bcell hB1
  have hb1 := Lib.hid (below_then HB0.out (by simp) hB1)
  have hz1 : w.heap.size < w1.heap.size := by have := hB1.size; simp at this; omega
  have c0 : w1.cell? ⟨w.heap.size, 0, none⟩ = some x := by rw [hk _ _ (by simp)]; go_simp
  have c1 : w1.cell? ⟨w.heap.size, 1, none⟩ = some y := by rw [hk _ _ (by simp)]; go_simp
  clear hk hB1
  by_cases g1 : 400 < t.size
  · have hf : Hid (t.check = 2) := by unfold T.check; rw [if_pos g1]; exact rfl
    go_wp2
    go_ret
    exact ⟨ret_int hf.out.symm, hb1.out⟩
  · go_wp2_with fail
    refine (depth_calls t _ _ (HV.out.later hb1.out) HS.out).mono ?_
    rintro e w2 ⟨rfl, hB2⟩
    obtain ⟨hk, -⟩ := bcell hB2
    have hb2 := Lib.hid (below_then hb1.out (by omega) hB2)
    have hz2 : w.heap.size < w2.heap.size := by have := hB2.size; omega
    have c0' : w2.cell? ⟨w.heap.size, 0, none⟩ = some x := by rw [hk _ _ hz1]; exact c0
    have c1' : w2.cell? ⟨w.heap.size, 1, none⟩ = some y := by rw [hk _ _ hz1]; exact c1
    clear hk hB2 c0 c1
    by_cases g2 : 40 < t.depth
    · have hf : Hid (t.check = 7) := by unfold T.check; rw [if_neg g1, if_pos g2]; exact rfl
      go_wp2
      go_ret
      exact ⟨ret_int hf.out.symm, hb2.out⟩
    · go_wp2_with fail
      refine (good_calls t _ _ (HV.out.later hb2.out)).mono ?_
      rintro e w3 ⟨rfl, hB3⟩
      have hb3 := Lib.hid (below_then hb2.out (by omega) hB3)
      clear hB3
      rcases hg : t.good with _ | _
      · have hf : Hid (t.check = 1) := by unfold T.check; rw [if_neg g1, if_neg g2, hg]; exact rfl
        clear hg
        go_wp2
        go_ret
        exact ⟨ret_int hf.out.symm, hb3.out⟩
      · have hf : Hid (t.check = 0) := by unfold T.check; rw [if_neg g1, if_neg g2, hg]; exact rfl
        clear hg
        go_wp2
        go_ret
        exact ⟨ret_int hf.out.symm, hb3.out⟩

set_option maxRecDepth 100000 in
set_option maxHeartbeats 1000000 in
theorem right_calls (t : T) (v : Value) (w : World) (hv : IsV w t v) (hsz : t.size ≤ 1000000000) :
    Calls Try.prog 36 #[v] w fun e w' => e = .returned (.bool t.rightB) ∧ Below w.heap.size w w' := by
  have HV := Lib.hid hv
  have HS := Lib.hid hsz
  obtain ⟨x, y, rfl, ht⟩ := hv
  clear ht hsz
  have hb0 : Below w.heap.size w (w.alloc (.cells #[x, y] 24)) := (Below.refl _ _).alloc (Nat.le_refl _) _
  have HB0 := Lib.hid hb0
  clear hb0
  go_enter Try.func36, Try.ntmps36
  go_wp2_with fail
  refine (check_calls t _ _ (HV.out.later HB0.out) HS.out).mono ?_
  rintro e w1 ⟨rfl, hB1⟩
  have hb1 := Lib.hid (below_then HB0.out (by simp) hB1)
  clear hB1
  have hf : Hid ((t.check == 0) = t.rightB) := by unfold T.rightB; exact rfl
  go_wp2
  go_ret
  refine ⟨ret_bool ?_, hb1.out⟩
  exact hf.out

set_option maxRecDepth 100000 in
set_option maxHeartbeats 1000000 in
theorem compare_calls (n : Nat) : ∀ (a b : T) (va vb : Value) (w : World), a.size ≤ n → IsV w a va → IsV w b vb → a.size ≤ 1000000000 → b.size ≤ 1000000000 →
    Calls Try.prog 26 #[va, vb] w fun e w' => e = .returned (.int .i64 (T.cmp a b)) ∧ Below w.heap.size w w' := by
  induction n with
  | zero => intro a b va vb w h; have := T.size_pos a; omega
  | succ n ih =>
  intro a b va vb w hn hva hvb hsa hsb
  have HA := Lib.hid hva
  have HB := Lib.hid hvb
  have SA := Lib.hid hsa
  have SB := Lib.hid hsb
  have IH := Lib.hid ih
  have HN := Lib.hid hn
  obtain ⟨x, y, rfl, ha⟩ := hva
  obtain ⟨x', y', rfl, hb⟩ := hvb
  clear ih ha hb hsa hsb hn
  go_enter Try.func26, Try.ntmps26
  go_wp2
  obtain ⟨W0, hW0⟩ : ∃ W0, (w.alloc (.cells #[x, y] 24)).alloc (.cells #[x', y'] 24) = W0 := ⟨_, rfl⟩
  have hB0 : Below w.heap.size w W0 := by rw [← hW0]; exact ((Below.refl _ _).alloc (Nat.le_refl _) _).alloc (by simp) _
  have hz0 : w.heap.size + 1 < W0.heap.size := by rw [← hW0]; simp
  have hz0a : w.heap.size < W0.heap.size := by omega
  have c0 : W0.cell? ⟨w.heap.size, 0, none⟩ = some x := by rw [← hW0]; exact cell_old _ (cell_new _ _ _ _ rfl)
  have c1 : W0.cell? ⟨w.heap.size, 1, none⟩ = some y := by rw [← hW0]; exact cell_old _ (cell_new _ _ _ _ rfl)
  have c2 : W0.cell? ⟨w.heap.size + 1, 0, none⟩ = some x' := by rw [← hW0]; have := cell_new (w.alloc (.cells #[x, y] 24)) #[x', y'] 24 0 (v := x') rfl; rw [World.size_alloc] at this; exact this
  have c3 : W0.cell? ⟨w.heap.size + 1, 1, none⟩ = some y' := by rw [← hW0]; have := cell_new (w.alloc (.cells #[x, y] 24)) #[x', y'] 24 1 (v := y') rfl; rw [World.size_alloc] at this; exact this
  rw [hW0]
  have HA0 := Lib.hid (HA.out.later hB0)
  have HB0 := Lib.hid (HB.out.later hB0)
  have HB00 := Lib.hid hB0
  clear hW0 hB0
  refine wp_mix 3 62 (fun ix _ u => match ix with | 0 => u = .agg #[x, y] | 1 => u = .int .i64 (a.size : Int) | 2 => u = .agg #[x', y'] | _ => True) (by kernel_rfl) rfl (by decide +kernel) (fun ix W W' u _ h => h) ?_ ?_
  · refine goes_cons rfl ?_ (goes_cons rfl ?_ (goes_cons rfl ?_ (goes_nil)))
    · intro ρ W hW hc hg hf hbase hdeps
      obtain ⟨hk, -⟩ := bcell hW
      have r2 := hbase 2 (by kernel_rfl)
      clear hbase hdeps
      go_simp
      exact ⟨Below.refl _ _, rfl⟩
    · intro ρ W hW hc hg hf hbase hdeps
      obtain ⟨hk, -⟩ := bcell hW
      have r7 : ρ (.tmp 7) = .agg #[x, y] := hdeps 0 _ 7 (by kernel_rfl) rfl rfl
      clear hbase hdeps
      go_simp
      refine (size_calls a _ _ (HA0.out.later hW) SA.out).mono ?_; rintro e w1 ⟨rfl, hB1⟩; exact ⟨_, rfl, hB1, rfl⟩
    · intro ρ W hW hc hg hf hbase hdeps
      obtain ⟨hk, -⟩ := bcell hW
      have r3 := hbase 3 (by kernel_rfl)
      clear hbase hdeps
      go_simp
      exact ⟨Below.refl _ _, rfl⟩
  · intro us W1 hW1 hus
    have hu0 : us 0 = .agg #[x, y] := hus 0 (by decide)
    have hu1 : us 1 = .int .i64 (a.size : Int) := hus 1 (by decide)
    have hu2 : us 2 = .agg #[x', y'] := hus 2 (by decide)
    clear hus
    simp only [List.drop_succ_cons, List.drop_zero, List.take_succ_cons, List.take_zero, fill, Act.put, List.setIfInBounds_toArray, List.set_cons_succ, List.set_cons_zero, hu0, hu1, hu2]
    clear hu0 hu1 hu2
    go_wp2_with fail
    refine (size_calls b _ _ (HB0.out.later hW1) SB.out).mono ?_
    rintro e W2 ⟨rfl, hW2'⟩
    have hW2 := below_then hW1 hW1.size hW2'
    have hb2 := Lib.hid (below_then HB00.out (by omega) hW2)
    have hz2 : w.heap.size + 1 < W2.heap.size := by have := hW2.size; omega
    obtain ⟨hk, -⟩ := bcell hW2
    have d0 : W2.cell? ⟨w.heap.size, 0, none⟩ = some x := by rw [hk _ _ (by omega)]; exact c0
    have d1 : W2.cell? ⟨w.heap.size, 1, none⟩ = some y := by rw [hk _ _ (by omega)]; exact c1
    have d2 : W2.cell? ⟨w.heap.size + 1, 0, none⟩ = some x' := by rw [hk _ _ (by omega)]; exact c2
    have d3 : W2.cell? ⟨w.heap.size + 1, 1, none⟩ = some y' := by rw [hk _ _ (by omega)]; exact c3
    have HA2 := Lib.hid (HA0.out.later hW2)
    have HB2 := Lib.hid (HB0.out.later hW2)
    clear hk c0 c1 c2 c3 HA0 HB0 hW1 hW2 hW2' HB00 hz0
    clear hz0a
    have hz2a : w.heap.size < W2.heap.size := by omega
    by_cases hsz : a.size = b.size
    · have hsz' : ((a.size : Int) != (b.size : Int)) = false := by simp [hsz]
      have HSZ := Lib.hid hsz; clear hsz
      obtain ⟨rfl, -, hla⟩ := HA2.out.cells.parts
      obtain ⟨rfl, -, hlb⟩ := HB2.out.cells.parts
      obtain ⟨A, c, rfl, hc1, hc2⟩ := hla.shapeT
      obtain ⟨A', c', rfl, hc1', hc2'⟩ := hlb.shapeT
      have HLA := Lib.hid hla
      have HLB := Lib.hid hlb
      clear hla hlb
      obtain ⟨hd, ar⟩ := a
      obtain ⟨kd, br⟩ := b
      simp only [T.head_mk, T.args_mk] at *
      by_cases hh : hd = kd
      · have HH := Lib.hid hh
        have hh' : (hd != kd) = false := by simp [hh]
        clear hh
        by_cases hll : ar.length = br.length
        · have hll' : ((ar.length : Int) != (br.length : Int)) = false := by simp [hll]
          have hfin : Hid (T.cmp (.mk hd ar) (.mk kd br) = T.cmpL ar br) := by
            have := HSZ.out
            have := HH.out
            have e : T.cmp (.mk hd ar) (.mk kd br) = T.cmpL ar br := by rw [T.cmp, if_pos HSZ.out, if_pos HH.out, if_pos hll]
            exact e
          have HLL := Lib.hid hll; clear hll
          go_wp2
          go_loopg [5] (ar.length + 1) (fun k i wr => ∃ (d : Nat), d + k = ar.length + 1 ∧ i = .int .i64 d ∧ T.cmpL (ar.drop d) (br.drop d) = T.cmpL ar br ∧ Below W2.heap.size W2 wr)
          case atStart => exact ⟨0, by omega, rfl, rfl, Below.refl _ _⟩
          case round =>
            obtain ⟨d, hd', rfl, hcc, hB⟩ := hrel
            have HC := Lib.hid hcc; clear hcc
            obtain ⟨hk, -⟩ := bcell hB
            have e1 : wr.cell? ⟨w.heap.size, 1, none⟩ = some (.slice A ar.length c) := by rw [hk _ _ hz2a]; exact d1
            have e3 : wr.cell? ⟨w.heap.size + 1, 1, none⟩ = some (.slice A' br.length c') := by rw [hk _ _ hz2]; exact d3
            have hzr : W2.heap.size ≤ wr.heap.size := hB.size
            clear hk
            by_cases hlt : d < ar.length
            · have hlt' : d < br.length := by have := HLL.out; omega
              obtain ⟨b1, o1, rfl, -, hb1, hcell1⟩ := HLA.out.cells (by omega)
              obtain ⟨p, q, hp, hq, ht⟩ := hcell1 d hlt
              obtain ⟨b2, o2, rfl, -, hb2', hcell2⟩ := HLB.out.cells (by omega)
              obtain ⟨p', q', hp', hq', ht'⟩ := hcell2 d hlt'
              have f1 := cell_kept hB hp
              have f2 := cell_kept hB hq
              have f3 := cell_kept hB hp'
              have f4 := cell_kept hB hq'
              have g1 : b1 < wr.heap.size := by omega
              have g2 : b2 < wr.heap.size := by omega
              have g3 : w.heap.size < wr.heap.size := by omega
              have g4 : w.heap.size + 1 < wr.heap.size := by omega
              have HT := Lib.hid (VF.of_ (ht.later hB))
              have HT' := Lib.hid (VF.of_ (ht'.later hB))
              clear ht ht' hp hq hp' hq' hcell1 hcell2
              have HSD := Lib.hid (T.cmpL_drop hlt hlt')
              have S1 : Hid (T.size ar[d] ≤ n) := by have := T.size_lt (h := hd) (List.getElem_mem hlt); have := HN.out; exact (by omega : T.size ar[d] ≤ n)
              have S2 : Hid (T.size ar[d] ≤ 1000000000) := by have := T.size_lt (h := hd) (List.getElem_mem hlt); have := SA.out; exact (by omega : T.size ar[d] ≤ 1000000000)
              have S3 : Hid (T.size br[d] ≤ 1000000000) := by have := T.size_lt (h := kd) (List.getElem_mem hlt'); have := SB.out; exact (by omega : T.size br[d] ≤ 1000000000)
              go_wp2_with fail
              refine wp_mix 10 62 (fun ix _ u => match ix with | 0 => u = .pointer (some ⟨w.heap.size, 1, none⟩) | 1 => u = .slice (some ⟨b1, o1, none⟩) ar.length c | 2 => u = .int .i64 (d : Int) | 3 => u = .pointer (some ⟨b1, o1 + d * 2, none⟩) | 4 => u = .agg #[p, q] | 5 => u = .pointer (some ⟨w.heap.size + 1, 1, none⟩) | 6 => u = .slice (some ⟨b2, o2, none⟩) br.length c' | 7 => u = .int .i64 (d : Int) | 8 => u = .pointer (some ⟨b2, o2 + d * 2, none⟩) | 9 => u = .agg #[p', q'] | _ => True) (by kernel_rfl) rfl (by decide +kernel) (fun ix W W' u _ h => h) ?_ ?_
              · refine goes_cons rfl ?_ (goes_cons rfl ?_ (goes_cons rfl ?_ (goes_cons rfl ?_ (goes_cons rfl ?_ (goes_cons rfl ?_ (goes_cons rfl ?_ (goes_cons rfl ?_ (goes_cons rfl ?_ (goes_cons rfl ?_ (goes_nil))))))))))
                · intro ρ W hW hc hg hf hbase hdeps
                  obtain ⟨hk, -⟩ := bcell hW
                  have r2 := hbase 2 (by kernel_rfl)
                  clear hbase hdeps
                  go_simp
                  exact ⟨Below.refl _ _, rfl⟩
                · intro ρ W hW hc hg hf hbase hdeps
                  obtain ⟨hk, -⟩ := bcell hW
                  have r48 : ρ (.tmp 48) = .pointer (some ⟨w.heap.size, 1, none⟩) := hdeps 0 _ 48 (by kernel_rfl) rfl rfl
                  clear hbase hdeps
                  go_simp
                  exact ⟨Below.refl _ _, rfl⟩
                · intro ρ W hW hc hg hf hbase hdeps
                  obtain ⟨hk, -⟩ := bcell hW
                  have r5 := hbase 5 (by kernel_rfl)
                  clear hbase hdeps
                  go_simp
                  exact ⟨Below.refl _ _, rfl⟩
                · intro ρ W hW hc hg hf hbase hdeps
                  obtain ⟨hk, -⟩ := bcell hW
                  have r49 : ρ (.tmp 49) = .slice (some ⟨b1, o1, none⟩) ar.length c := hdeps 1 _ 49 (by kernel_rfl) rfl rfl
                  have r50 : ρ (.tmp 50) = .int .i64 (d : Int) := hdeps 2 _ 50 (by kernel_rfl) rfl rfl
                  clear hbase hdeps
                  go_simp
                  exact ⟨Below.refl _ _, rfl⟩
                · intro ρ W hW hc hg hf hbase hdeps
                  obtain ⟨hk, -⟩ := bcell hW
                  have r51 : ρ (.tmp 51) = .pointer (some ⟨b1, o1 + d * 2, none⟩) := hdeps 3 _ 51 (by kernel_rfl) rfl rfl
                  clear hbase hdeps
                  go_simp
                  exact ⟨Below.refl _ _, rfl⟩
                · intro ρ W hW hc hg hf hbase hdeps
                  obtain ⟨hk, -⟩ := bcell hW
                  have r3 := hbase 3 (by kernel_rfl)
                  clear hbase hdeps
                  go_simp
                  exact ⟨Below.refl _ _, rfl⟩
                · intro ρ W hW hc hg hf hbase hdeps
                  obtain ⟨hk, -⟩ := bcell hW
                  have r53 : ρ (.tmp 53) = .pointer (some ⟨w.heap.size + 1, 1, none⟩) := hdeps 5 _ 53 (by kernel_rfl) rfl rfl
                  clear hbase hdeps
                  go_simp
                  exact ⟨Below.refl _ _, rfl⟩
                · intro ρ W hW hc hg hf hbase hdeps
                  obtain ⟨hk, -⟩ := bcell hW
                  have r5 := hbase 5 (by kernel_rfl)
                  clear hbase hdeps
                  go_simp
                  exact ⟨Below.refl _ _, rfl⟩
                · intro ρ W hW hc hg hf hbase hdeps
                  obtain ⟨hk, -⟩ := bcell hW
                  have r54 : ρ (.tmp 54) = .slice (some ⟨b2, o2, none⟩) br.length c' := hdeps 6 _ 54 (by kernel_rfl) rfl rfl
                  have r55 : ρ (.tmp 55) = .int .i64 (d : Int) := hdeps 7 _ 55 (by kernel_rfl) rfl rfl
                  clear hbase hdeps
                  go_simp
                  exact ⟨Below.refl _ _, rfl⟩
                · intro ρ W hW hc hg hf hbase hdeps
                  obtain ⟨hk, -⟩ := bcell hW
                  have r56 : ρ (.tmp 56) = .pointer (some ⟨b2, o2 + d * 2, none⟩) := hdeps 8 _ 56 (by kernel_rfl) rfl rfl
                  clear hbase hdeps
                  go_simp
                  exact ⟨Below.refl _ _, rfl⟩
              · intro us W3 hW3 hus
                have hu0 : us 0 = .pointer (some ⟨w.heap.size, 1, none⟩) := hus 0 (by decide)
                have hu1 : us 1 = .slice (some ⟨b1, o1, none⟩) ar.length c := hus 1 (by decide)
                have hu2 : us 2 = .int .i64 (d : Int) := hus 2 (by decide)
                have hu3 : us 3 = .pointer (some ⟨b1, o1 + d * 2, none⟩) := hus 3 (by decide)
                have hu4 : us 4 = .agg #[p, q] := hus 4 (by decide)
                have hu5 : us 5 = .pointer (some ⟨w.heap.size + 1, 1, none⟩) := hus 5 (by decide)
                have hu6 : us 6 = .slice (some ⟨b2, o2, none⟩) br.length c' := hus 6 (by decide)
                have hu7 : us 7 = .int .i64 (d : Int) := hus 7 (by decide)
                have hu8 : us 8 = .pointer (some ⟨b2, o2 + d * 2, none⟩) := hus 8 (by decide)
                have hu9 : us 9 = .agg #[p', q'] := hus 9 (by decide)
                clear hus
                simp only [List.drop_succ_cons, List.drop_zero, List.take_succ_cons, List.take_zero, fill, Act.put, List.setIfInBounds_toArray, List.set_cons_succ, List.set_cons_zero, hu0, hu1, hu2, hu3, hu4, hu5, hu6, hu7, hu8, hu9]
                clear hu0 hu1 hu2 hu3 hu4 hu5 hu6 hu7 hu8 hu9
                go_wp2_with fail
                refine (IH.out _ _ _ _ _ S1.out (HT.out.later (below_then (Below.refl _ _) (by simp) hW3)) (HT'.out.later hW3) S2.out S3.out).mono ?_
                rintro e W4 ⟨rfl, hW4⟩
                have hX := Lib.hid ((hB.trans (hW3.mono hzr)).trans (hW4.mono (by have := hW3.size; omega)))
                clear hW4 hW3 e1 e3 f1 f2 f3 f4
                by_cases hz : T.cmp ar[d] br[d] = 0
                · have hz' : (T.cmp ar[d] br[d] != 0) = false := by simp [hz]
                  have HZ := Lib.hid hz; clear hz
                  go_wp2
                  go_roundg (gk - 1)
                  case rel => exact ⟨d + 1, by omega, by go_num, by rw [← HC.out, HSD.out, if_pos HZ.out], hX.out⟩
                  case measure => omega
                · have hz' : (T.cmp ar[d] br[d] != 0) = true := by simp [hz]
                  have HZ := Lib.hid hz; clear hz
                  go_wp2
                  go_ret
                  refine ⟨ret_int ?_, hb2.out.trans (hX.out.mono (by omega))⟩
                  rw [hfin.out, ← HC.out, HSD.out, if_neg HZ.out]
            · go_wp2
              go_ret
              refine ⟨ret_int ?_, hb2.out.trans (hB.mono (by omega))⟩
              rw [hfin.out, ← HC.out, T.cmpL_end (by omega)]
        · have hll' : ((ar.length : Int) != (br.length : Int)) = true := by simp; omega
          have hfin : Hid (T.cmp (.mk hd ar) (.mk kd br) = ord ar.length br.length) := by
            have e : T.cmp (.mk hd ar) (.mk kd br) = ord ar.length br.length := by rw [T.cmp, if_pos HSZ.out, if_pos HH.out, if_neg hll]
            exact e
          clear hll
          go_wp2_with (go_at_call 43; refine (order_calls _ _ _).mono ?_; rintro e w' ⟨rfl, rfl⟩)
          go_ret
          exact ⟨ret_int hfin.out.symm, hb2.out⟩
      · have hh' : (hd != kd) = true := by simp [hh]
        have hfin : Hid (T.cmp (.mk hd ar) (.mk kd br) = ord hd kd) := by
          have e : T.cmp (.mk hd ar) (.mk kd br) = ord hd kd := by rw [T.cmp, if_pos HSZ.out, if_neg hh]
          exact e
        clear hh
        go_wp2_with (go_at_call 43; refine (order_calls _ _ _).mono ?_; rintro e w' ⟨rfl, rfl⟩)
        go_ret
        exact ⟨ret_int hfin.out.symm, hb2.out⟩
    · have hsz' : ((a.size : Int) != (b.size : Int)) = true := by simp; omega
      have hfin : Hid (T.cmp a b = ord a.size b.size) := by
        have e : T.cmp a b = ord a.size b.size := by
          cases a; cases b; rw [T.cmp, if_neg hsz]
        exact e
      clear hsz
      go_wp2
      refine wp_mix 3 62 (fun ix _ u => match ix with | 0 => u = .agg #[x, y] | 1 => u = .int .i64 (a.size : Int) | 2 => u = .agg #[x', y'] | _ => True) (by kernel_rfl) rfl (by decide +kernel) (fun ix W W' u _ h => h) ?_ ?_
      · refine goes_cons rfl ?_ (goes_cons rfl ?_ (goes_cons rfl ?_ (goes_nil)))
        · intro ρ W hW hc hg hf hbase hdeps
          obtain ⟨hk, -⟩ := bcell hW
          have r2 := hbase 2 (by kernel_rfl)
          clear hbase hdeps
          go_simp
          exact ⟨Below.refl _ _, rfl⟩
        · intro ρ W hW hc hg hf hbase hdeps
          obtain ⟨hk, -⟩ := bcell hW
          have r12 : ρ (.tmp 12) = .agg #[x, y] := hdeps 0 _ 12 (by kernel_rfl) rfl rfl
          clear hbase hdeps
          go_simp
          refine (size_calls a _ _ (HA2.out.later hW) SA.out).mono ?_; rintro e w1 ⟨rfl, hB1⟩; exact ⟨_, rfl, hB1, rfl⟩
        · intro ρ W hW hc hg hf hbase hdeps
          obtain ⟨hk, -⟩ := bcell hW
          have r3 := hbase 3 (by kernel_rfl)
          clear hbase hdeps
          go_simp
          exact ⟨Below.refl _ _, rfl⟩
      · intro us W3 hW3 hus
        have hu0 : us 0 = .agg #[x, y] := hus 0 (by decide)
        have hu1 : us 1 = .int .i64 (a.size : Int) := hus 1 (by decide)
        have hu2 : us 2 = .agg #[x', y'] := hus 2 (by decide)
        clear hus
        simp only [List.drop_succ_cons, List.drop_zero, List.take_succ_cons, List.take_zero, fill, Act.put, List.setIfInBounds_toArray, List.set_cons_succ, List.set_cons_zero, hu0, hu1, hu2]
        clear hu0 hu1 hu2
        go_wp2_with fail
        refine (size_calls b _ _ (HB2.out.later hW3) SB.out).mono ?_
        rintro e W4 ⟨rfl, hW4⟩
        have hX := Lib.hid ((hb2.out.trans (hW3.mono (by omega))).trans (hW4.mono (by have := hW3.size; omega)))
        clear hW3 hW4 d0 d1 d2 d3
        go_wp2_with (go_at_call 43; refine (order_calls _ _ _).mono ?_; rintro e w' ⟨rfl, rfl⟩)
        go_ret
        exact ⟨ret_int hfin.out.symm, hX.out⟩

set_option maxRecDepth 100000 in
set_option maxHeartbeats 1000000 in
theorem same_calls (a b : T) (va vb : Value) (w : World) (hva : IsV w a va) (hvb : IsV w b vb) (hsa : a.size ≤ 1000000000) (hsb : b.size ≤ 1000000000) :
    Calls Try.prog 15 #[va, vb] w fun e w' => e = .returned (.bool (T.same a b)) ∧ Below w.heap.size w w' := by
  have HA := Lib.hid hva
  have HB := Lib.hid hvb
  have SA := Lib.hid hsa
  have SB := Lib.hid hsb
  obtain ⟨x, y, rfl, ha⟩ := hva
  obtain ⟨x', y', rfl, hb⟩ := hvb
  clear ha hb hsa hsb
  have hB0 : Below w.heap.size w ((w.alloc (.cells #[x, y] 24)).alloc (.cells #[x', y'] 24)) := ((Below.refl _ _).alloc (Nat.le_refl _) _).alloc (by simp) _
  have HB0 := Lib.hid hB0
  clear hB0
  go_enter Try.func15, Try.ntmps15
  go_wp2_with fail
  refine (compare_calls a.size a b _ _ _ (Nat.le_refl _) (HA.out.later HB0.out) (HB.out.later HB0.out) SA.out SB.out).mono ?_
  rintro e W1 ⟨rfl, hW1⟩
  have hX := Lib.hid (HB0.out.trans (hW1.mono (by simp; omega)))
  clear hW1
  go_wp2
  go_ret
  exact ⟨ret_bool rfl, hX.out⟩

set_option maxRecDepth 100000 in
set_option maxHeartbeats 1000000 in
theorem all_calls (l : List T) (v : Value) (w : World) (hv : IsL w l v) (hsz : ∀ t, t ∈ l → t.size ≤ 1000000000) :
    Calls Try.prog 21 #[v] w fun e w' => e = .returned (.bool (T.rightAll l)) ∧ Below w.heap.size w w' := by
  obtain ⟨A, c, rfl, hc1, hc2⟩ := hv.shapeT
  have HL := Lib.hid hv
  have HS := Lib.hid hsz
  clear hv hsz
  go_enter Try.func21, Try.ntmps21
  go_wp2
  go_loopg [3] (l.length + 1) (fun k i wr => ∃ (d : Nat), d + k = l.length + 1 ∧ i = .int .i64 d ∧ T.rightAll (l.drop d) = T.rightAll l ∧ Below w.heap.size w wr)
  case atStart => exact ⟨0, by omega, rfl, rfl, Below.refl _ _⟩
  case round =>
    obtain ⟨d, hd, rfl, hc, hB⟩ := hrel
    have HC := Lib.hid hc; clear hc
    by_cases hlt : d < l.length
    · obtain ⟨b, o, rfl, -, hb, hcell⟩ := HL.out.cells (by omega)
      obtain ⟨p, q, hp, hq, ht⟩ := hcell d hlt
      have hp' := cell_kept hB hp
      have hq' := cell_kept hB hq
      have HT := Lib.hid (VF.of_ (ht.later hB))
      clear ht hp hq hcell
      have HSD := Lib.hid (T.rightAll_drop hlt)
      go_wp2_with fail
      refine (right_calls l[d] _ _ HT.out (HS.out _ (List.getElem_mem hlt))).mono ?_
      rintro e w1 ⟨rfl, hB1⟩
      have hX := Lib.hid (below_then hB hB.size hB1)
      clear hB1
      rcases hg : T.rightB l[d] with _ | _
      · have HG := Lib.hid hg; clear hg
        go_wp2
        go_ret
        exact ⟨ret_bool (by rw [← HC.out, HSD.out, HG.out]; rfl), hX.out⟩
      · have HG := Lib.hid hg; clear hg
        go_wp2
        go_roundg (gk - 1)
        case rel => exact ⟨d + 1, by omega, by go_num, by rw [← HC.out, HSD.out, HG.out]; rfl, hX.out⟩
        case measure => omega
    · go_wp2
      go_ret
      refine ⟨ret_bool ?_, hB⟩
      have := HC.out
      rw [List.drop_eq_nil_of_le (by omega)] at this
      rw [← this]; rfl
end Go.Proofs.Ytokhnlhffnidmaa
