/- The net's terms, written out in new memory. -/
import Derived.Test.YtokhnlhffnidmaaRefE
namespace Go.Proofs.Ytokhnlhffnidmaa
open Go.RowKit Elen

/-- a term in new memory -/
def NewT (t : T) (w : World) (e : Ending) (w' : World) : Prop := ∃ v, e = .returned v ∧ VF (w.heap.size ≤ ·) w' t v ∧ Below w.heap.size w w'

theorem Try.infoT : (Try.prog.info? 24).map (fun i => (i.zero, i.size, i.bytes)) = some (some (.agg #[.int .i64 0, .slice none 0 0]), 2, 32) := by kernel_rfl

theorem heap_setCell_at {w : World} {g : Nat} {cs : Array Value} {t : TypeId} {fr : Nat × Nat} (h : w.heap[g]? = some (.cells cs t fr)) (j : Nat) (v : Value) : (w.setCell ⟨g, j, none⟩ v).heap[g]? = some (.cells (cs.setIfInBounds j v) t fr) := by
  simp only [World.setCell, Array.getElem?_modify, if_pos, h, Option.map_some]
  simp
theorem cell_of_block {w : World} {g : Nat} {cs : Array Value} {t : TypeId} {fr : Nat × Nat} (h : w.heap[g]? = some (.cells cs t fr)) {j : Nat} {v : Value} (hv : cs[j]? = some v) : w.cell? ⟨g, j, none⟩ = some v := by
  simp [World.cell?, h, hv]
theorem frozen_of_block {w : World} {g : Nat} {cs : Array Value} {t : TypeId} (h : w.heap[g]? = some (.cells cs t (0, 0))) (j : Nat) : w.frozen? ⟨g, j, none⟩ = false := by
  simp [World.frozen?, h]

set_option maxRecDepth 100000 in
set_option maxHeartbeats 600000 in
theorem nterm_calls (N : List Nd) (s : Sub) (hn : Net N) (hr : Rep N s) (gn g cap : Nat) :
    ∀ (z x : Nat) (t t' : T) (F : Nat → Prop) (w : World), t'.size ≤ z → t'.size ≤ 1000000000 → Den N x t → Full s t t' → NetR F w gn g cap N → 0 < N.length →
    Calls Try.prog 25 #[.pointer (some ⟨gn, 0, none⟩), .int .i64 (x : Int)] w (NewT t' w) := by
  intro z
  induction z with
  | zero => intro x t t' F w h; have := T.size_pos t'; omega
  | succ z ih =>
  intro x t t' F w hz hz9 hd hf hN hp
  obtain ⟨j, u, nd, hb, hdj, hwk, hfu, hnj, hto, hhd⟩ := Beh.of_full hn hr hf hd
  obtain ⟨k, hbk⟩ := hb.count
  obtain ⟨ls, hls, hch, hmk⟩ := under_of hn hr hnj hto hdj hfu
  have hi64 := hN.i64 hnj
  have HN := Lib.hid (hN.bound hp)
  have HK := Lib.hid hbk
  have IH := Lib.hid ih
  have HT := Lib.hid hn.tos
  have HZ := Lib.hid hz
  have HZ9 := Lib.hid hz9
  have hjl : j < N.length := (List.getElem?_eq_some_iff.1 hnj).1
  have HJ := Lib.hid hnj
  have hnl := hN.2.1
  have HLS := Lib.hid hls
  have HCH := Lib.hid hch
  have HMK := Lib.hid hmk
  have HI := Lib.hid hi64
  clear hN hbk ih hz hz9 hnj hdj hfu hd hf hwk hb hto hhd hls hch hmk hi64
  have hll : ls.length ≤ 1000000000 := by
    have h1 := HZ9.out
    rw [HMK.out] at h1
    have h2 : ∀ l : List T, l.length ≤ T.sizeL l := by
      intro l
      induction l with
      | nil => simp
      | cons a l ih => simp only [List.length_cons, T.sizeL]; have := T.size_pos a; omega
    have := h2 ls
    simp only [T.size] at h1; omega
  go_enter Try.func25, Try.ntmps25
  have hb1 : Below w.heap.size w (w.alloc (.cells #[.int .i64 0, .slice none 0 0] 24)) := (Below.refl _ _).alloc (Nat.le_refl _) _
  have HB1 := Lib.hid hb1
  clear hb1
  go_wp2_with fail
  refine (behind_calls _ _ gn g cap N (HN.out.later HB1.out) k x j HK.out HT.out).mono ?_
  rintro e w1 ⟨rfl, rfl⟩
  obtain ⟨hlt, h0, h2, A, c, h1, hal, hargs⟩ := (HN.out.later HB1.out).get HJ.out
  have kc0 := (HN.out.later HB1.out).1
  clear hargs
  go_wp2
  obtain ⟨W0, hW0⟩ : ∃ W0, (w.alloc (.cells #[.int .i64 0, .slice none 0 0] 24)).alloc (.cells #[.int .i64 nd.head, .slice none 0 0] 24) = W0 := ⟨_, rfl⟩
  have hB0 : Below w.heap.size w W0 := by rw [← hW0]; exact ((Below.refl _ _).alloc (Nat.le_refl _) _).alloc (by simp) _
  have hz0 : W0.heap.size = w.heap.size + 2 := by rw [← hW0]; simp
  have g4 : W0.heap[w.heap.size]? = some (.cells #[.int .i64 0, .slice none 0 0] 24 (0, 0)) := by
    rw [← hW0, Below.heap_alloc _ _ _ (by simp)]; exact heap_alloc_new _ _
  have g5 : W0.heap[w.heap.size + 1]? = some (.cells #[.int .i64 nd.head, .slice none 0 0] 24 (0, 0)) := by
    rw [← hW0]
    have := heap_alloc_new (w.alloc (.cells #[.int .i64 0, .slice none 0 0] 24)) (.cells #[.int .i64 nd.head, .slice none 0 0] 24)
    simpa using this
  rw [hW0]
  have HB0 := Lib.hid hB0
  have HZ0 := Lib.hid hz0
  have HG4 := Lib.hid g4
  have HG5 := Lib.hid g5
  clear hW0 hB0 g4 g5 hz0 h0 h1 h2 kc0
  go_loopg [6] (nd.args.length + 1) (fun k i wr => ∃ (d : Nat) (v : Value), d + k = nd.args.length + 1 ∧ i = .int .i64 d ∧ Below w.heap.size w wr ∧ w.heap.size + 2 ≤ wr.heap.size ∧
    wr.heap[w.heap.size]? = some (.cells #[.int .i64 0, .slice none 0 0] 24 (0, 0)) ∧ wr.heap[w.heap.size + 1]? = some (.cells #[.int .i64 nd.head, v] 24 (0, 0)) ∧ Own KT 24 (w.heap.size + 2 ≤ ·) (w.heap.size + 2) wr v (ls.take d))
  case atStart => exact ⟨0, .slice none 0 0, by omega, rfl, HB0.out, by have := HZ0.out; omega, HG4.out, HG5.out, Own.nil _ _ _ _ _⟩
  case round =>
    obtain ⟨d, v, hd, rfl, hB, hzr, g4, g5, hO⟩ := hrel
    obtain ⟨Av, cv, hv⟩ := hO.shape
    subst hv
    obtain ⟨nv, hnv⟩ : ∃ nv, (List.take d ls).length = nv := ⟨_, rfl⟩
    rw [hnv] at g5 hO
    have HB := Lib.hid hB
    have HG4 := Lib.hid g4
    have HG5 := Lib.hid g5
    have HO := Lib.hid hO
    clear hB g4 g5 hO
    obtain ⟨-, k0, k2, A1, c1, k1, -, hargs1⟩ := (HN.out.later HB.out).get HJ.out
    have kc := (HN.out.later HB.out).1
    have kh := cell_of_block HG5.out (j := 0) (v := .int .i64 nd.head) rfl
    have kv := cell_of_block HG5.out (j := 1) (v := .slice Av nv cv) rfl
    have q1 : w.heap.size + 1 < wr.heap.size := by omega
    have q2 : gn < wr.heap.size := World.block_lt_of_cell? wr _ kc
    have q3 : g < wr.heap.size := World.block_lt_of_cell? wr _ k0
    by_cases hdl : d < nd.args.length
    · obtain ⟨b1, o1, rfl, hcell⟩ := hargs1 (by omega)
      have hcd := hcell d hdl
      have q4 : b1 < wr.heap.size := World.block_lt_of_cell? wr _ hcd
      have hdls : d < ls.length := by have := HLS.out; omega
      obtain ⟨ti, e1, e2, e3⟩ := HCH.out d hdl hdls
      have E1 := Lib.hid e1
      have E2 := Lib.hid e2
      have E3 := Lib.hid e3
      clear hargs1 hcell e1 e2 e3
      go_wp2_with fail
      refine wp_mix 16 51 (fun ix W u => match ix with | 0 => u = .pointer (some ⟨w.heap.size + 1, 1, none⟩) | 1 => u = .slice Av nv cv | 2 => u = .pointer (some ⟨gn, 0, none⟩) | 3 => u = .pointer (some ⟨gn, 0, none⟩) | 4 => u = .pointer (some ⟨gn, 0, none⟩) | 5 => u = .pointer (some ⟨gn, 0, none⟩) | 6 => u = .slice (some ⟨g, 0, none⟩) N.length cap | 7 => u = .int .i64 (j : Int) | 8 => u = .pointer (some ⟨g, j * 3, none⟩) | 9 => u = .pointer (some ⟨g, j * 3 + 1, none⟩) | 10 => u = .slice (some ⟨b1, o1, none⟩) nd.args.length c1 | 11 => u = .int .i64 (d : Int) | 12 => u = .pointer (some ⟨b1, o1 + d, none⟩) | 13 => u = .int .i64 (nd.args[d] : Int) | 14 => VF (wr.heap.size ≤ ·) W ls[d] u | 15 => ∃ b, u = .slice (some ⟨b, 0, none⟩) 1 1 ∧ Row KT (wr.heap.size ≤ ·) W [ls[d]] b 0 | _ => True) (by kernel_rfl) rfl (by decide +kernel) (fun ix W W' u hb h => by match ix, h with | 0, h => exact h | 1, h => exact h | 2, h => exact h | 3, h => exact h | 4, h => exact h | 5, h => exact h | 6, h => exact h | 7, h => exact h | 8, h => exact h | 9, h => exact h | 10, h => exact h | 11, h => exact h | 12, h => exact h | 13, h => exact h | 14, h => exact h.later hb | 15, h => exact (by obtain ⟨b, e, hr⟩ := h; exact ⟨b, e, hr.later hb⟩) | _ + 16, h => exact h) ?_ ?_
      · refine goes_cons rfl ?_ (goes_cons rfl ?_ (goes_cons rfl ?_ (goes_cons rfl ?_ (goes_cons rfl ?_ (goes_cons rfl ?_ (goes_cons rfl ?_ (goes_cons rfl ?_ (goes_cons rfl ?_ (goes_cons rfl ?_ (goes_cons rfl ?_ (goes_cons rfl ?_ (goes_cons rfl ?_ (goes_cons rfl ?_ (goes_cons rfl ?_ (goes_cons rfl ?_ (goes_nil))))))))))))))))
        · intro ρ W hW hc hg hf hbase hdeps
          obtain ⟨hk, -⟩ := bcell hW
          have r5 := hbase 5 (by kernel_rfl)
          clear hbase hdeps
          go_simp
          exact ⟨Below.refl _ _, rfl⟩
        · intro ρ W hW hc hg hf hbase hdeps
          obtain ⟨hk, -⟩ := bcell hW
          have r32 : ρ (.tmp 32) = .pointer (some ⟨w.heap.size + 1, 1, none⟩) := hdeps 0 _ 32 (by kernel_rfl) rfl rfl
          clear hbase hdeps
          go_simp
          exact ⟨Below.refl _ _, rfl⟩
        · intro ρ W hW hc hg hf hbase hdeps
          obtain ⟨hk, -⟩ := bcell hW
          have r0 := hbase 0 (by kernel_rfl)
          clear hbase hdeps
          go_simp
          exact ⟨Below.refl _ _, rfl⟩
        · intro ρ W hW hc hg hf hbase hdeps
          obtain ⟨hk, -⟩ := bcell hW
          have r0 := hbase 0 (by kernel_rfl)
          clear hbase hdeps
          go_simp
          exact ⟨Below.refl _ _, rfl⟩
        · intro ρ W hW hc hg hf hbase hdeps
          obtain ⟨hk, -⟩ := bcell hW
          have r35 : ρ (.tmp 35) = .pointer (some ⟨gn, 0, none⟩) := hdeps 3 _ 35 (by kernel_rfl) rfl rfl
          clear hbase hdeps
          go_simp
          exact ⟨Below.refl _ _, rfl⟩
        · intro ρ W hW hc hg hf hbase hdeps
          obtain ⟨hk, -⟩ := bcell hW
          have r36 : ρ (.tmp 36) = .pointer (some ⟨gn, 0, none⟩) := hdeps 4 _ 36 (by kernel_rfl) rfl rfl
          clear hbase hdeps
          go_simp
          exact ⟨Below.refl _ _, rfl⟩
        · intro ρ W hW hc hg hf hbase hdeps
          obtain ⟨hk, -⟩ := bcell hW
          have r37 : ρ (.tmp 37) = .pointer (some ⟨gn, 0, none⟩) := hdeps 5 _ 37 (by kernel_rfl) rfl rfl
          clear hbase hdeps
          go_simp
          exact ⟨Below.refl _ _, rfl⟩
        · intro ρ W hW hc hg hf hbase hdeps
          obtain ⟨hk, -⟩ := bcell hW
          have r1 := hbase 1 (by kernel_rfl)
          clear hbase hdeps
          go_simp
          exact ⟨Below.refl _ _, rfl⟩
        · intro ρ W hW hc hg hf hbase hdeps
          obtain ⟨hk, -⟩ := bcell hW
          have r38 : ρ (.tmp 38) = .slice (some ⟨g, 0, none⟩) N.length cap := hdeps 6 _ 38 (by kernel_rfl) rfl rfl
          have r39 : ρ (.tmp 39) = .int .i64 (j : Int) := hdeps 7 _ 39 (by kernel_rfl) rfl rfl
          clear hbase hdeps
          go_simp
          exact ⟨Below.refl _ _, rfl⟩
        · intro ρ W hW hc hg hf hbase hdeps
          obtain ⟨hk, -⟩ := bcell hW
          have r40 : ρ (.tmp 40) = .pointer (some ⟨g, j * 3, none⟩) := hdeps 8 _ 40 (by kernel_rfl) rfl rfl
          clear hbase hdeps
          go_simp
          exact ⟨Below.refl _ _, rfl⟩
        · intro ρ W hW hc hg hf hbase hdeps
          obtain ⟨hk, -⟩ := bcell hW
          have r41 : ρ (.tmp 41) = .pointer (some ⟨g, j * 3 + 1, none⟩) := hdeps 9 _ 41 (by kernel_rfl) rfl rfl
          clear hbase hdeps
          go_simp
          exact ⟨Below.refl _ _, rfl⟩
        · intro ρ W hW hc hg hf hbase hdeps
          obtain ⟨hk, -⟩ := bcell hW
          have r6 := hbase 6 (by kernel_rfl)
          clear hbase hdeps
          go_simp
          exact ⟨Below.refl _ _, rfl⟩
        · intro ρ W hW hc hg hf hbase hdeps
          obtain ⟨hk, -⟩ := bcell hW
          have r42 : ρ (.tmp 42) = .slice (some ⟨b1, o1, none⟩) nd.args.length c1 := hdeps 10 _ 42 (by kernel_rfl) rfl rfl
          have r43 : ρ (.tmp 43) = .int .i64 (d : Int) := hdeps 11 _ 43 (by kernel_rfl) rfl rfl
          clear hbase hdeps
          go_simp
          exact ⟨Below.refl _ _, rfl⟩
        · intro ρ W hW hc hg hf hbase hdeps
          obtain ⟨hk, -⟩ := bcell hW
          have r44 : ρ (.tmp 44) = .pointer (some ⟨b1, o1 + d, none⟩) := hdeps 12 _ 44 (by kernel_rfl) rfl rfl
          clear hbase hdeps
          go_simp
          exact ⟨Below.refl _ _, rfl⟩
        · intro ρ W hW hc hg hf hbase hdeps
          obtain ⟨hk, -⟩ := bcell hW
          have r34 : ρ (.tmp 34) = .pointer (some ⟨gn, 0, none⟩) := hdeps 2 _ 34 (by kernel_rfl) rfl rfl
          have r45 : ρ (.tmp 45) = .int .i64 (nd.args[d] : Int) := hdeps 13 _ 45 (by kernel_rfl) rfl rfl
          clear hbase hdeps
          go_simp
          refine (IH.out _ ti _ _ W (by have := E3.out; have := HZ.out; omega) (by have := E3.out; have := HZ9.out; omega) E1.out E2.out ((HN.out.later HB.out).later hW) (by omega)).mono ?_; rintro e w1 ⟨u, rfl, hu, hB1⟩; exact ⟨_, rfl, hB1, hu.mono (fun b hb => Nat.le_trans hW.size hb)⟩
        · intro ρ W hW hc hg hf hbase hdeps
          obtain ⟨hk, -⟩ := bcell hW
          have r46 : (fun u => VF (wr.heap.size ≤ ·) W ls[d] u) (ρ (.tmp 46)) := hdeps 14 _ 46 (by kernel_rfl) rfl rfl
          dsimp only at r46
          obtain ⟨u46, e46⟩ : ∃ u, ρ (.tmp 46) = u := ⟨_, rfl⟩
          rw [e46] at r46
          clear hbase hdeps
          obtain ⟨xx, yy, rfl, hxy⟩ := r46
          go_simp
          exact ⟨(Below.refl _ _).alloc (Nat.le_refl _) _, _, rfl, row_of_block (K := KT) ⟨_, _, rfl, hxy⟩ _⟩
      · intro us W1 hW1 hus
        have hu0 : us 0 = .pointer (some ⟨w.heap.size + 1, 1, none⟩) := hus 0 (by decide)
        have hu1 : us 1 = .slice Av nv cv := hus 1 (by decide)
        have hu2 : us 2 = .pointer (some ⟨gn, 0, none⟩) := hus 2 (by decide)
        have hu3 : us 3 = .pointer (some ⟨gn, 0, none⟩) := hus 3 (by decide)
        have hu4 : us 4 = .pointer (some ⟨gn, 0, none⟩) := hus 4 (by decide)
        have hu5 : us 5 = .pointer (some ⟨gn, 0, none⟩) := hus 5 (by decide)
        have hu6 : us 6 = .slice (some ⟨g, 0, none⟩) N.length cap := hus 6 (by decide)
        have hu7 : us 7 = .int .i64 (j : Int) := hus 7 (by decide)
        have hu8 : us 8 = .pointer (some ⟨g, j * 3, none⟩) := hus 8 (by decide)
        have hu9 : us 9 = .pointer (some ⟨g, j * 3 + 1, none⟩) := hus 9 (by decide)
        have hu10 : us 10 = .slice (some ⟨b1, o1, none⟩) nd.args.length c1 := hus 10 (by decide)
        have hu11 : us 11 = .int .i64 (d : Int) := hus 11 (by decide)
        have hu12 : us 12 = .pointer (some ⟨b1, o1 + d, none⟩) := hus 12 (by decide)
        have hu13 : us 13 = .int .i64 (nd.args[d] : Int) := hus 13 (by decide)
        have hu14 : (fun u W => VF (wr.heap.size ≤ ·) W ls[d] u) (us 14) W1 := hus 14 (by decide)
        dsimp only at hu14
        have hu15 : (fun u W => ∃ b, u = .slice (some ⟨b, 0, none⟩) 1 1 ∧ Row KT (wr.heap.size ≤ ·) W [ls[d]] b 0) (us 15) W1 := hus 15 (by decide)
        dsimp only at hu15
        clear hus
        simp only [List.drop_succ_cons, List.drop_zero, List.take_succ_cons, List.take_zero, fill, Act.put, List.setIfInBounds_toArray, List.set_cons_succ, List.set_cons_zero, hu0, hu1, hu2, hu3, hu4, hu5, hu6, hu7, hu8, hu9, hu10, hu11, hu12, hu13]
        clear hu0 hu1 hu2 hu3 hu4 hu5 hu6 hu7 hu8 hu9 hu10 hu11 hu12 hu13
        generalize us 14 = u14 at *
        generalize us 15 = u15 at *
        obtain ⟨bn, rfl, hrow⟩ := hu15
        clear hu14
        have hb2 := HB.out.trans (hW1.mono (by omega))
        have q5 : w.heap.size + 1 < W1.heap.size := by have := hW1.size; omega
        have g5 := (hW1.block _ q1).trans HG5.out
        have g4 := (hW1.block _ (by omega)).trans HG4.out
        have hO1 := HO.out.later hW1
        have hbl := HO.out.block
        refine wp_append (K := KT) (F := (w.heap.size + 2 ≤ ·)) (F1 := (wr.heap.size ≤ ·)) (w.heap.size + 2) ?a1 (.tmp 33) (.tmp 47) 22 24 (.agg #[.int .i64 0, .slice none 0 0]) ?a2 Try.underlying22 Try.infoT ?a3 (.slice Av nv cv) (ls.take d) [ls[d]] ?a4 bn 0 1 ?a5 hO1 hrow ?_ ?_ ?a6 ?_
        case a1 => rfl
        case a2 => rfl
        case a3 => rfl
        case a4 => rfl
        case a5 => rfl
        case a6 => omega
        · intro b hb1 _
          refine ⟨by omega, fun e => ?_⟩
          have := hbl b e.symm
          omega
        · have : (KT).by_ = 32 := rfl
          rw [this]; simp; omega
        intro v1 w1 hO2 hgr hat hsl
        obtain ⟨gg, cp, hv1⟩ := hsl (by simp)
        subst hv1
        generalize (List.take d ls).length + [ls[d]].length = nn at *
        have hne : (Value.slice Av nv cv).ownBlock ≠ some (w.heap.size + 1) := fun e => by have := hbl _ e; omega
        have hne4 : (Value.slice Av nv cv).ownBlock ≠ some w.heap.size := fun e => by have := hbl _ e; omega
        have g5' := (hgr.block _ q5 (fun e => hne e.symm)).trans g5
        have g4' := (hgr.block _ (by omega) (fun e => hne4 e.symm)).trans g4
        have hb3 : Below w.heap.size w w1 := hb2.grown hgr (by omega) (fun k e => by have := hbl k e; omega)
        have kk := cell_of_block g5' (j := 1) (v := .slice Av nv cv) rfl
        have kf := frozen_of_block g5' 1
        have hgs := grownBy_setCell w1 ⟨w.heap.size + 1, 1, none⟩ (.slice (some ⟨gg, 0, none⟩) nn cp)
        have hO3 : Own KT 24 (w.heap.size + 2 ≤ ·) (w.heap.size + 2) (w1.setCell ⟨w.heap.size + 1, 1, none⟩ (.slice (some ⟨gg, 0, none⟩) nn cp)) (.slice (some ⟨gg, 0, none⟩) nn cp) (ls.take (d + 1)) := by
          have e : ls.take (d + 1) = ls.take d ++ [ls[d]] := by rw [List.take_succ_eq_append_getElem hdls]
          rw [e]
          refine hO2.grown hgs (fun k e => ?_)
          cases e
          exact ⟨by simp, fun e => by have := hO2.block _ e; simp at this <;> omega⟩
        have HO3 := Lib.hid hO3
        have HB3 := Lib.hid (hb3.setCell (p := ⟨w.heap.size + 1, 1, none⟩) (by simp) (.slice (some ⟨gg, 0, none⟩) nn cp))
        have HG5' := Lib.hid (heap_setCell_at g5' 1 (.slice (some ⟨gg, 0, none⟩) nn cp))
        have HG4' := Lib.hid ((Below.heap_setCell w1 ⟨w.heap.size + 1, 1, none⟩ (.slice (some ⟨gg, 0, none⟩) nn cp) w.heap.size (by simp)).trans g4')
        have q6 : w.heap.size + 2 ≤ w1.heap.size := by have := hgr.size; omega
        clear hO2 hgr hat hne hne4 g5' g4' hb3 hgs hO3 hb2 g5 g4 hO1 hbl k0 k1 k2 kc kh kv
        go_wp2
        go_roundg (gk - 1)
        case rel => exact ⟨d + 1, _, by omega, by go_num, HB3.out, by simpa using q6, HG4'.out, HG5'.out, HO3.out⟩
        case measure => omega
    · have hdd : ls.take d = ls := List.take_of_length_le (by have := HLS.out; omega)
      have hO := HO.out
      rw [hdd] at hO
      have HSL := Lib.hid ((hO.sl.mono (fun b hb => by
        rcases hb with h | h
        · exact h
        · have := (hO.block b h.symm).1; omega) : Sl KT (w.heap.size + 2 ≤ ·) wr ls (.slice Av nv cv)))
      clear hO hdd
      have q0 := cell_of_block HG4.out (j := 0) (v := .int .i64 0) rfl
      have q1' := cell_of_block HG4.out (j := 1) (v := .slice none 0 0) rfl
      have f0 := frozen_of_block HG4.out 0
      have f1 := frozen_of_block HG4.out 1
      have s1 := heap_setCell_at HG4.out 0 (.int .i64 nd.head)
      have s2 := heap_setCell_at s1 1 (.slice Av nv cv)
      have e0 := cell_of_block s2 (j := 0) (v := .int .i64 nd.head) rfl
      have e1 := cell_of_block s2 (j := 1) (v := .slice Av nv cv) rfl
      have gr1 := grownBy_setCell wr ⟨w.heap.size, 0, none⟩ (.int .i64 nd.head)
      have gr2 := gr1.trans (grownBy_setCell (wr.setCell ⟨w.heap.size, 0, none⟩ (.int .i64 nd.head)) ⟨w.heap.size, 1, none⟩ (.slice Av nv cv))
      have HSL2 := Lib.hid (Sl.mono (fun _ h => h.1) (Sl.move (w1 := (wr.setCell ⟨w.heap.size, 0, none⟩ (.int .i64 nd.head)).setCell ⟨w.heap.size, 1, none⟩ (.slice Av nv cv)) (fun b hb => gr2.block b hb.2 (fun e => by cases e; have : w.heap.size + 2 ≤ w.heap.size := hb.1; omega)) HSL.out.bound))
      have HB2 := Lib.hid ((HB.out.setCell (p := ⟨w.heap.size, 0, none⟩) (Nat.le_refl _) (.int .i64 nd.head)).setCell (p := ⟨w.heap.size, 1, none⟩) (Nat.le_refl _) (.slice Av nv cv))
      clear s1 s2 gr1 gr2
      go_wp2
      refine bodyPost_ret (v := .agg #[.int .i64 nd.head, .slice Av nv cv]) (by simp [results, Try.results25, go_sem, e0, e1]) rfl ?_
      refine ⟨_, rfl, ⟨_, _, rfl, ?_⟩, HB2.out⟩
      rw [HMK.out]
      exact (HSL2.out.term HI.out).mono (fun b hb => by omega)
end Go.Proofs.Ytokhnlhffnidmaa
