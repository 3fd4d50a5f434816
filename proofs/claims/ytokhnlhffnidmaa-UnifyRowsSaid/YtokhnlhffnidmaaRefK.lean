/- The reference's Mgu, Few and Same. -/
import Derived.Test.YtokhnlhffnidmaaRefJ
import Derived.Test.YtokhnlhffnidmaaUniM
import Derived.Test.YtokhnlhffnidmaaPlainJ
namespace Go.Proofs.Ytokhnlhffnidmaa
open Go.RowKit Go.Shelf Elen

set_option maxRecDepth 100000 in
set_option maxHeartbeats 1000000 in
theorem rmgu_calls (a b : T) (va vb : Value) (w : World) (ha : IsV w a va) (hb : IsV w b vb) (hz : 1 + 8 * (a.size + b.size) ≤ 1000000) (q : Option (List Nd × Sub)) (hq : wrongs [a] [b] = false → RRun (putZ [] [(a, b)]).1 (fun _ => none) (fun _ _ => false) (putZ [] [(a, b)]).2 q ∧ ∀ n' s', q = some (n', s') → Like (putZ [] [(a, b)]).1 n' ∧ Net n' ∧ Rep n' s' ∧ Fine s') :
    Calls Try.prog 7 #[va, vb] w (AllPost (allR [a] [b] (q.map (·.2))) w) := by
  obtain ⟨xa, ya, rfl, ha⟩ := ha
  obtain ⟨xb, yb, rfl, hb⟩ := hb
  obtain ⟨rfl, hia, hsa⟩ := ha.parts
  obtain ⟨A, ca, rfl, -, -⟩ := hsa.shapeT
  obtain ⟨rfl, hib, hsb⟩ := hb.parts
  obtain ⟨B, cb, rfl, -, -⟩ := hsb.shapeT
  have HA := Lib.hid ha
  have HB := Lib.hid hb
  have HR := Lib.hid hq
  clear ha hb hq hsa hsb
  go_enter Try.func7, Try.ntmps7
  go_upto_region 1 with fail
  have hb1 : Below w.heap.size w ((w.alloc (.cells #[.int .i64 a.head, .slice A a.args.length ca] 24)).alloc (.cells #[.int .i64 b.head, .slice B b.args.length cb] 24)) := allocs_below [.cells #[.int .i64 a.head, .slice A a.args.length ca] 24, .cells #[.int .i64 b.head, .slice B b.args.length cb] 24] _ (Nat.le_refl _)
  have g0 : ((w.alloc (.cells #[.int .i64 a.head, .slice A a.args.length ca] 24)).alloc (.cells #[.int .i64 b.head, .slice B b.args.length cb] 24)).heap[w.heap.size]? = some (.cells #[.int .i64 a.head, .slice A a.args.length ca] 24) := allocs_get [.cells #[.int .i64 a.head, .slice A a.args.length ca] 24, .cells #[.int .i64 b.head, .slice B b.args.length cb] 24] w 0 (by simp)
  have g1 : ((w.alloc (.cells #[.int .i64 a.head, .slice A a.args.length ca] 24)).alloc (.cells #[.int .i64 b.head, .slice B b.args.length cb] 24)).heap[w.heap.size + 1]? = some (.cells #[.int .i64 b.head, .slice B b.args.length cb] 24) := allocs_get [.cells #[.int .i64 a.head, .slice A a.args.length ca] 24, .cells #[.int .i64 b.head, .slice B b.args.length cb] 24] w 1 (by simp)
  have hz1 : ((w.alloc (.cells #[.int .i64 a.head, .slice A a.args.length ca] 24)).alloc (.cells #[.int .i64 b.head, .slice B b.args.length cb] 24)).heap.size = w.heap.size + 2 := by simp
  generalize ((w.alloc (.cells #[.int .i64 a.head, .slice A a.args.length ca] 24)).alloc (.cells #[.int .i64 b.head, .slice B b.args.length cb] 24)) = W1 at *
  have k00 := cell_of_block g0 (j := 0) (v := .int .i64 a.head) rfl
  have k01 := cell_of_block g0 (j := 1) (v := .slice A a.args.length ca) rfl
  have k10 := cell_of_block g1 (j := 0) (v := .int .i64 b.head) rfl
  have k11 := cell_of_block g1 (j := 1) (v := .slice B b.args.length cb) rfl
  have hb2 : Below W1.heap.size W1 (W1.alloc (.cells #[.int .i64 a.head, .slice A a.args.length ca] 24)) := (Below.refl _ _).alloc (Nat.le_refl _) _
  have hb3 : Below W1.heap.size W1 ((W1.alloc (.cells #[.int .i64 a.head, .slice A a.args.length ca] 24)).alloc (.cells #[.int .i64 b.head, .slice B b.args.length cb] 24)) := hb2.alloc (by simp) _
  have hsA : Sl KT Any ((W1.alloc (.cells #[.int .i64 a.head, .slice A a.args.length ca] 24)).alloc (.cells #[.int .i64 b.head, .slice B b.args.length cb] 24)) [a] (.slice (some ⟨W1.heap.size, 0, none⟩) 1 1) := (Sl.one (HA.out.later hb1) trivial).later ((Below.refl _ _).alloc (Nat.le_refl _) _)
  have hsB : Sl KT Any ((W1.alloc (.cells #[.int .i64 a.head, .slice A a.args.length ca] 24)).alloc (.cells #[.int .i64 b.head, .slice B b.args.length cb] 24)) [b] (.slice (some ⟨W1.heap.size + 1, 0, none⟩) 1 1) := by
    have := Sl.one ((HB.out.later hb1).later hb2) trivial
    rw [World.size_alloc] at this
    exact this
  have hcall := rall_calls Any [a] [b] _ _ _ hsA hsB (by simp only [List.length_cons, List.length_nil, T.sizeL]; omega) q HR.out
  have hb3w := hb1.trans (hb3.mono (by omega))
  have HB3 := Lib.hid hb3w
  have HC := Lib.hid hcall
  have hz2 : w.heap.size + 1 < W1.heap.size := by omega
  clear hcall hsA hsB hb3 hb2 g0 g1 hb3w hz1
  have hsz : w.heap.size ≤ ((W1.alloc (.cells #[.int .i64 a.head, .slice A a.args.length ca] 24)).alloc (.cells #[.int .i64 b.head, .slice B b.args.length cb] 24)).heap.size := HB3.out.size
  have HSZ := Lib.hid hsz
  clear hsz
  go_wp2_with fail
  refine HC.out.mono ?_
  rintro e w2 ⟨v, rfl, hs, hb⟩
  obtain ⟨Ao, co, rfl, -, -⟩ := hs.shape
  have HS := Lib.hid hs
  have HBB := Lib.hid hb
  clear hs hb
  go_wp2
  go_ret3
  exact ⟨_, rfl, HS.out.mono (fun k hk => Nat.le_trans HSZ.out hk), HB3.out.trans (HBB.out.mono HSZ.out)⟩

set_option maxHeartbeats 400000 in
theorem few_calls (l : List T) (v : Value) (w : World) (hv : IsL w l v) :
    Calls Try.prog 5 #[v] w fun e w' => e = .returned (.bool (decide (fewN l 0 ≤ 60))) ∧ Below w.heap.size w w' := by
  obtain ⟨A, c, rfl, hc1, hc2⟩ := hv.shapeT
  have HL := Lib.hid hv
  clear hv
  go_enter Try.func5, Try.ntmps5
  go_wp2
  go_loopg [3, 4] (l.length + 1) (fun k n i wr => ∃ (d : Nat) (x : Int), d + k = l.length + 1 ∧ i = .int .i64 d ∧ n = .int .i64 x ∧ 0 ≤ x ∧ x ≤ 121 ∧ fewN (l.drop d) x = fewN l 0 ∧ Below w.heap.size w wr)
  case atStart => exact ⟨0, 0, by omega, rfl, rfl, by omega, by omega, rfl, Below.refl _ _⟩
  case round =>
    obtain ⟨d, x, hd, rfl, rfl, hx1, hx2, hc, hB⟩ := hrel
    have HC := Lib.hid hc; clear hc
    by_cases hlt : d < l.length
    · by_cases hn : x ≤ 60
      · obtain ⟨b, o, rfl, -, hb, hcell⟩ := HL.out.cells (by omega)
        obtain ⟨p, q, hp, hq, ht⟩ := hcell d hlt
        have hp' := cell_kept hB hp
        have hq' := cell_kept hB hq
        have HT := Lib.hid (VF.of_ (ht.later hB))
        clear ht hp hq hcell
        have hcl := T.count_le l[d] 60 (by omega)
        go_wp2_with fail
        refine (count_calls l[d] 60 _ _ HT.out (by omega) (by omega)).mono ?_
        rintro e w1 ⟨rfl, hB1⟩
        go_wp2
        go_roundg (gk - 1)
        case rel =>
          exact ⟨d + 1, x + T.count l[d] 60, by omega, by go_num, rfl, by omega, by omega, by rw [← HC.out, fewN_drop hlt _ hn], below_then hB hB.size hB1⟩
        case measure => omega
      · go_wp2
        go_ret
        refine ⟨ret_bool ?_, hB⟩
        have := HC.out
        rw [fewN_stop _ _ (by omega)] at this
        rw [← this]
        simpa using hn
    · go_wp2
      go_ret
      refine ⟨ret_bool ?_, hB⟩
      have := HC.out
      rw [List.drop_eq_nil_of_le (by omega)] at this
      rw [← this]; rfl

set_option maxRecDepth 100000 in
set_option maxHeartbeats 1000000 in
theorem bsame_calls (l : List (Nat × T)) (va vb : Value) (w : World) (ha : Sl KB Any w l va) (hb : Sl KB Any w l vb) (hsz : ∀ p, p ∈ l → p.2.size ≤ 1000000000) :
    Calls Try.prog 9 #[va, vb] w fun e w' => e = .returned (.bool true) ∧ Below w.heap.size w w' := by
  obtain ⟨A, ca, rfl, hc1, hc2⟩ := ha.shape
  obtain ⟨B, cb, rfl, hd1, hd2⟩ := hb.shape
  have e40 : (KB).by_ = 40 := rfl
  rw [e40] at hc2 hd2
  have HA := Lib.hid ha
  have HB := Lib.hid hb
  have HS := Lib.hid hsz
  clear ha hb hsz e40
  go_enter Try.func9, Try.ntmps9
  go_wp2
  go_loopg [5] (l.length + 1) (fun k i wr => ∃ d : Nat, d + k = l.length + 1 ∧ i = .int .i64 d ∧ Below w.heap.size w wr)
  case atStart => exact ⟨0, by omega, rfl, Below.refl _ _⟩
  case round =>
    obtain ⟨d, hd, rfl, hB⟩ := hrel
    have hzr := hB.size
    by_cases hlt : d < l.length
    · obtain ⟨b1, o1, rfl, -, hbl1, hg1⟩ := HA.out.get (by omega)
      obtain ⟨b2, o2, rfl, -, hbl2, hg2⟩ := HB.out.get (by omega)
      obtain ⟨vs1, ⟨x, y, rfl, hx⟩, hq1⟩ := hg1 d hlt
      obtain ⟨vs2, ⟨x', y', rfl, hx'⟩, hq2⟩ := hg2 d hlt
      have e3 : (KB).sz = 3 := rfl
      rw [e3] at hq1 hq2
      have a0 := cell_kept hB (hq1 0 (by simp))
      have a1 := cell_kept hB (hq1 1 (by simp))
      have a2 := cell_kept hB (hq1 2 (by simp))
      have b0 := cell_kept hB (hq2 0 (by simp))
      have b1' := cell_kept hB (hq2 1 (by simp))
      have b2' := cell_kept hB (hq2 2 (by simp))
      simp only [List.getElem_cons_zero, List.getElem_cons_succ, Nat.add_zero] at a0 a1 a2 b0 b1' b2'
      have HX := Lib.hid (VF.of_ (hx.later hB))
      have HX' := Lib.hid (VF.of_ (hx'.later hB))
      have S1 := Lib.hid (HS.out _ (List.getElem_mem hlt))
      generalize hv : l[d].1 = vd at *
      clear hx hx' hg1 hg2 hq1 hq2 e3 hv
      go_wp2_with fail
      refine wp_mix 22 42 (fun ix _ u => match ix with | 0 => u = .slice (some ⟨b1, o1, none⟩) l.length ca | 1 => u = .int .i64 (d : Int) | 2 => u = .pointer (some ⟨b1, o1 + d * 3, none⟩) | 3 => u = .pointer (some ⟨b1, o1 + d * 3, none⟩) | 4 => u = .int .i64 (vd : Int) | 5 => u = .slice (some ⟨b2, o2, none⟩) l.length cb | 6 => u = .int .i64 (d : Int) | 7 => u = .pointer (some ⟨b2, o2 + d * 3, none⟩) | 8 => u = .pointer (some ⟨b2, o2 + d * 3, none⟩) | 9 => u = .int .i64 (vd : Int) | 10 => u = .bool false | 11 => u = .bool false | 12 => u = .slice (some ⟨b1, o1, none⟩) l.length ca | 13 => u = .int .i64 (d : Int) | 14 => u = .pointer (some ⟨b1, o1 + d * 3, none⟩) | 15 => u = .pointer (some ⟨b1, o1 + d * 3 + 1, none⟩) | 16 => u = .agg #[x, y] | 17 => u = .slice (some ⟨b2, o2, none⟩) l.length cb | 18 => u = .int .i64 (d : Int) | 19 => u = .pointer (some ⟨b2, o2 + d * 3, none⟩) | 20 => u = .pointer (some ⟨b2, o2 + d * 3 + 1, none⟩) | 21 => u = .agg #[x', y'] | _ => True) (by kernel_rfl) rfl (by decide +kernel) (fun ix W W' u _ h => h) ?_ ?_
      · refine goes_cons rfl ?_ (goes_cons rfl ?_ (goes_cons rfl ?_ (goes_cons rfl ?_ (goes_cons rfl ?_ (goes_cons rfl ?_ (goes_cons rfl ?_ (goes_cons rfl ?_ (goes_cons rfl ?_ (goes_cons rfl ?_ (goes_cons rfl ?_ (goes_cons rfl ?_ (goes_yes rfl (fun W u h => h) ?_ (goes_yes rfl (fun W u h => h) ?_ (goes_yes rfl (fun W u h => h) ?_ (goes_yes rfl (fun W u h => h) ?_ (goes_yes rfl (fun W u h => h) ?_ (goes_yes rfl (fun W u h => h) ?_ (goes_yes rfl (fun W u h => h) ?_ (goes_yes rfl (fun W u h => h) ?_ (goes_yes rfl (fun W u h => h) ?_ (goes_yes rfl (fun W u h => h) ?_ (goes_nil))))))))))))))))))))))
        · intro ρ W hW hc hg hf hbase hdeps
          obtain ⟨hk, -⟩ := bcell hW
          have r0 := hbase 0 (by kernel_rfl)
          clear hbase hdeps
          have kk0 := cell_kept hW a0
          have kk1 := cell_kept hW a1
          have kk2 := cell_kept hW a2
          have kl0 := cell_kept hW b0
          have kl1 := cell_kept hW b1'
          have kl2 := cell_kept hW b2'
          go_simp
          exact ⟨Below.refl _ _, rfl⟩
        · intro ρ W hW hc hg hf hbase hdeps
          obtain ⟨hk, -⟩ := bcell hW
          have r5 := hbase 5 (by kernel_rfl)
          clear hbase hdeps
          have kk0 := cell_kept hW a0
          have kk1 := cell_kept hW a1
          have kk2 := cell_kept hW a2
          have kl0 := cell_kept hW b0
          have kl1 := cell_kept hW b1'
          have kl2 := cell_kept hW b2'
          go_simp
          exact ⟨Below.refl _ _, rfl⟩
        · intro ρ W hW hc hg hf hbase hdeps
          obtain ⟨hk, -⟩ := bcell hW
          have r17 : ρ (.tmp 17) = .slice (some ⟨b1, o1, none⟩) l.length ca := hdeps 0 _ 17 (by kernel_rfl) rfl rfl
          have r18 : ρ (.tmp 18) = .int .i64 (d : Int) := hdeps 1 _ 18 (by kernel_rfl) rfl rfl
          clear hbase hdeps
          have kk0 := cell_kept hW a0
          have kk1 := cell_kept hW a1
          have kk2 := cell_kept hW a2
          have kl0 := cell_kept hW b0
          have kl1 := cell_kept hW b1'
          have kl2 := cell_kept hW b2'
          go_simp
          exact ⟨Below.refl _ _, rfl⟩
        · intro ρ W hW hc hg hf hbase hdeps
          obtain ⟨hk, -⟩ := bcell hW
          have r19 : ρ (.tmp 19) = .pointer (some ⟨b1, o1 + d * 3, none⟩) := hdeps 2 _ 19 (by kernel_rfl) rfl rfl
          clear hbase hdeps
          have kk0 := cell_kept hW a0
          have kk1 := cell_kept hW a1
          have kk2 := cell_kept hW a2
          have kl0 := cell_kept hW b0
          have kl1 := cell_kept hW b1'
          have kl2 := cell_kept hW b2'
          go_simp
          exact ⟨Below.refl _ _, rfl⟩
        · intro ρ W hW hc hg hf hbase hdeps
          obtain ⟨hk, -⟩ := bcell hW
          have r20 : ρ (.tmp 20) = .pointer (some ⟨b1, o1 + d * 3, none⟩) := hdeps 3 _ 20 (by kernel_rfl) rfl rfl
          clear hbase hdeps
          have kk0 := cell_kept hW a0
          have kk1 := cell_kept hW a1
          have kk2 := cell_kept hW a2
          have kl0 := cell_kept hW b0
          have kl1 := cell_kept hW b1'
          have kl2 := cell_kept hW b2'
          go_simp
          exact ⟨Below.refl _ _, rfl⟩
        · intro ρ W hW hc hg hf hbase hdeps
          obtain ⟨hk, -⟩ := bcell hW
          have r1 := hbase 1 (by kernel_rfl)
          clear hbase hdeps
          have kk0 := cell_kept hW a0
          have kk1 := cell_kept hW a1
          have kk2 := cell_kept hW a2
          have kl0 := cell_kept hW b0
          have kl1 := cell_kept hW b1'
          have kl2 := cell_kept hW b2'
          go_simp
          exact ⟨Below.refl _ _, rfl⟩
        · intro ρ W hW hc hg hf hbase hdeps
          obtain ⟨hk, -⟩ := bcell hW
          have r5 := hbase 5 (by kernel_rfl)
          clear hbase hdeps
          have kk0 := cell_kept hW a0
          have kk1 := cell_kept hW a1
          have kk2 := cell_kept hW a2
          have kl0 := cell_kept hW b0
          have kl1 := cell_kept hW b1'
          have kl2 := cell_kept hW b2'
          go_simp
          exact ⟨Below.refl _ _, rfl⟩
        · intro ρ W hW hc hg hf hbase hdeps
          obtain ⟨hk, -⟩ := bcell hW
          have r22 : ρ (.tmp 22) = .slice (some ⟨b2, o2, none⟩) l.length cb := hdeps 5 _ 22 (by kernel_rfl) rfl rfl
          have r23 : ρ (.tmp 23) = .int .i64 (d : Int) := hdeps 6 _ 23 (by kernel_rfl) rfl rfl
          clear hbase hdeps
          have kk0 := cell_kept hW a0
          have kk1 := cell_kept hW a1
          have kk2 := cell_kept hW a2
          have kl0 := cell_kept hW b0
          have kl1 := cell_kept hW b1'
          have kl2 := cell_kept hW b2'
          go_simp
          exact ⟨Below.refl _ _, rfl⟩
        · intro ρ W hW hc hg hf hbase hdeps
          obtain ⟨hk, -⟩ := bcell hW
          have r24 : ρ (.tmp 24) = .pointer (some ⟨b2, o2 + d * 3, none⟩) := hdeps 7 _ 24 (by kernel_rfl) rfl rfl
          clear hbase hdeps
          have kk0 := cell_kept hW a0
          have kk1 := cell_kept hW a1
          have kk2 := cell_kept hW a2
          have kl0 := cell_kept hW b0
          have kl1 := cell_kept hW b1'
          have kl2 := cell_kept hW b2'
          go_simp
          exact ⟨Below.refl _ _, rfl⟩
        · intro ρ W hW hc hg hf hbase hdeps
          obtain ⟨hk, -⟩ := bcell hW
          have r25 : ρ (.tmp 25) = .pointer (some ⟨b2, o2 + d * 3, none⟩) := hdeps 8 _ 25 (by kernel_rfl) rfl rfl
          clear hbase hdeps
          have kk0 := cell_kept hW a0
          have kk1 := cell_kept hW a1
          have kk2 := cell_kept hW a2
          have kl0 := cell_kept hW b0
          have kl1 := cell_kept hW b1'
          have kl2 := cell_kept hW b2'
          go_simp
          exact ⟨Below.refl _ _, rfl⟩
        · intro ρ W hW hc hg hf hbase hdeps
          obtain ⟨hk, -⟩ := bcell hW
          have r21 : ρ (.tmp 21) = .int .i64 (vd : Int) := hdeps 4 _ 21 (by kernel_rfl) rfl rfl
          have r26 : ρ (.tmp 26) = .int .i64 (vd : Int) := hdeps 9 _ 26 (by kernel_rfl) rfl rfl
          clear hbase hdeps
          have kk0 := cell_kept hW a0
          have kk1 := cell_kept hW a1
          have kk2 := cell_kept hW a2
          have kl0 := cell_kept hW b0
          have kl1 := cell_kept hW b1'
          have kl2 := cell_kept hW b2'
          go_simp
          exact ⟨Below.refl _ _, rfl⟩
        · intro ρ W hW hc hg hf hbase hdeps
          obtain ⟨hk, -⟩ := bcell hW
          have r27 : ρ (.tmp 27) = .bool false := hdeps 10 _ 27 (by kernel_rfl) rfl rfl
          clear hbase hdeps
          have kk0 := cell_kept hW a0
          have kk1 := cell_kept hW a1
          have kk2 := cell_kept hW a2
          have kl0 := cell_kept hW b0
          have kl1 := cell_kept hW b1'
          have kl2 := cell_kept hW b2'
          go_simp
          exact ⟨Below.refl _ _, rfl⟩
        · intro ρ W hW hc hg hf hbase hdeps
          obtain ⟨hk, -⟩ := bcell hW
          have r0 := hbase 0 (by kernel_rfl)
          clear hbase hdeps
          have kk0 := cell_kept hW a0
          have kk1 := cell_kept hW a1
          have kk2 := cell_kept hW a2
          have kl0 := cell_kept hW b0
          have kl1 := cell_kept hW b1'
          have kl2 := cell_kept hW b2'
          go_simp
          exact ⟨Below.refl _ _, rfl⟩
        · intro ρ W hW hc hg hf hbase hdeps
          obtain ⟨hk, -⟩ := bcell hW
          have r5 := hbase 5 (by kernel_rfl)
          clear hbase hdeps
          have kk0 := cell_kept hW a0
          have kk1 := cell_kept hW a1
          have kk2 := cell_kept hW a2
          have kl0 := cell_kept hW b0
          have kl1 := cell_kept hW b1'
          have kl2 := cell_kept hW b2'
          go_simp
          exact ⟨Below.refl _ _, rfl⟩
        · intro ρ W hW hc hg hf hbase hdeps
          obtain ⟨hk, -⟩ := bcell hW
          have r29 : ρ (.tmp 29) = .slice (some ⟨b1, o1, none⟩) l.length ca := hdeps 12 _ 29 (by kernel_rfl) rfl rfl
          have r30 : ρ (.tmp 30) = .int .i64 (d : Int) := hdeps 13 _ 30 (by kernel_rfl) rfl rfl
          clear hbase hdeps
          have kk0 := cell_kept hW a0
          have kk1 := cell_kept hW a1
          have kk2 := cell_kept hW a2
          have kl0 := cell_kept hW b0
          have kl1 := cell_kept hW b1'
          have kl2 := cell_kept hW b2'
          go_simp
          exact ⟨Below.refl _ _, rfl⟩
        · intro ρ W hW hc hg hf hbase hdeps
          obtain ⟨hk, -⟩ := bcell hW
          have r31 : ρ (.tmp 31) = .pointer (some ⟨b1, o1 + d * 3, none⟩) := hdeps 14 _ 31 (by kernel_rfl) rfl rfl
          clear hbase hdeps
          have kk0 := cell_kept hW a0
          have kk1 := cell_kept hW a1
          have kk2 := cell_kept hW a2
          have kl0 := cell_kept hW b0
          have kl1 := cell_kept hW b1'
          have kl2 := cell_kept hW b2'
          go_simp
          exact ⟨Below.refl _ _, rfl⟩
        · intro ρ W hW hc hg hf hbase hdeps
          obtain ⟨hk, -⟩ := bcell hW
          have r32 : ρ (.tmp 32) = .pointer (some ⟨b1, o1 + d * 3 + 1, none⟩) := hdeps 15 _ 32 (by kernel_rfl) rfl rfl
          clear hbase hdeps
          have kk0 := cell_kept hW a0
          have kk1 := cell_kept hW a1
          have kk2 := cell_kept hW a2
          have kl0 := cell_kept hW b0
          have kl1 := cell_kept hW b1'
          have kl2 := cell_kept hW b2'
          go_simp
          exact ⟨Below.refl _ _, rfl⟩
        · intro ρ W hW hc hg hf hbase hdeps
          obtain ⟨hk, -⟩ := bcell hW
          have r1 := hbase 1 (by kernel_rfl)
          clear hbase hdeps
          have kk0 := cell_kept hW a0
          have kk1 := cell_kept hW a1
          have kk2 := cell_kept hW a2
          have kl0 := cell_kept hW b0
          have kl1 := cell_kept hW b1'
          have kl2 := cell_kept hW b2'
          go_simp
          exact ⟨Below.refl _ _, rfl⟩
        · intro ρ W hW hc hg hf hbase hdeps
          obtain ⟨hk, -⟩ := bcell hW
          have r5 := hbase 5 (by kernel_rfl)
          clear hbase hdeps
          have kk0 := cell_kept hW a0
          have kk1 := cell_kept hW a1
          have kk2 := cell_kept hW a2
          have kl0 := cell_kept hW b0
          have kl1 := cell_kept hW b1'
          have kl2 := cell_kept hW b2'
          go_simp
          exact ⟨Below.refl _ _, rfl⟩
        · intro ρ W hW hc hg hf hbase hdeps
          obtain ⟨hk, -⟩ := bcell hW
          have r34 : ρ (.tmp 34) = .slice (some ⟨b2, o2, none⟩) l.length cb := hdeps 17 _ 34 (by kernel_rfl) rfl rfl
          have r35 : ρ (.tmp 35) = .int .i64 (d : Int) := hdeps 18 _ 35 (by kernel_rfl) rfl rfl
          clear hbase hdeps
          have kk0 := cell_kept hW a0
          have kk1 := cell_kept hW a1
          have kk2 := cell_kept hW a2
          have kl0 := cell_kept hW b0
          have kl1 := cell_kept hW b1'
          have kl2 := cell_kept hW b2'
          go_simp
          exact ⟨Below.refl _ _, rfl⟩
        · intro ρ W hW hc hg hf hbase hdeps
          obtain ⟨hk, -⟩ := bcell hW
          have r36 : ρ (.tmp 36) = .pointer (some ⟨b2, o2 + d * 3, none⟩) := hdeps 19 _ 36 (by kernel_rfl) rfl rfl
          clear hbase hdeps
          have kk0 := cell_kept hW a0
          have kk1 := cell_kept hW a1
          have kk2 := cell_kept hW a2
          have kl0 := cell_kept hW b0
          have kl1 := cell_kept hW b1'
          have kl2 := cell_kept hW b2'
          go_simp
          exact ⟨Below.refl _ _, rfl⟩
        · intro ρ W hW hc hg hf hbase hdeps
          obtain ⟨hk, -⟩ := bcell hW
          have r37 : ρ (.tmp 37) = .pointer (some ⟨b2, o2 + d * 3 + 1, none⟩) := hdeps 20 _ 37 (by kernel_rfl) rfl rfl
          clear hbase hdeps
          have kk0 := cell_kept hW a0
          have kk1 := cell_kept hW a1
          have kk2 := cell_kept hW a2
          have kl0 := cell_kept hW b0
          have kl1 := cell_kept hW b1'
          have kl2 := cell_kept hW b2'
          go_simp
          exact ⟨Below.refl _ _, rfl⟩
      · intro us W3 hW3 hus
        have hu0 : us 0 = .slice (some ⟨b1, o1, none⟩) l.length ca := hus 0 (by decide)
        have hu1 : us 1 = .int .i64 (d : Int) := hus 1 (by decide)
        have hu2 : us 2 = .pointer (some ⟨b1, o1 + d * 3, none⟩) := hus 2 (by decide)
        have hu3 : us 3 = .pointer (some ⟨b1, o1 + d * 3, none⟩) := hus 3 (by decide)
        have hu4 : us 4 = .int .i64 (vd : Int) := hus 4 (by decide)
        have hu5 : us 5 = .slice (some ⟨b2, o2, none⟩) l.length cb := hus 5 (by decide)
        have hu6 : us 6 = .int .i64 (d : Int) := hus 6 (by decide)
        have hu7 : us 7 = .pointer (some ⟨b2, o2 + d * 3, none⟩) := hus 7 (by decide)
        have hu8 : us 8 = .pointer (some ⟨b2, o2 + d * 3, none⟩) := hus 8 (by decide)
        have hu9 : us 9 = .int .i64 (vd : Int) := hus 9 (by decide)
        have hu10 : us 10 = .bool false := hus 10 (by decide)
        have hu11 : us 11 = .bool false := hus 11 (by decide)
        have hu12 : us 12 = .slice (some ⟨b1, o1, none⟩) l.length ca := hus 12 (by decide)
        have hu13 : us 13 = .int .i64 (d : Int) := hus 13 (by decide)
        have hu14 : us 14 = .pointer (some ⟨b1, o1 + d * 3, none⟩) := hus 14 (by decide)
        have hu15 : us 15 = .pointer (some ⟨b1, o1 + d * 3 + 1, none⟩) := hus 15 (by decide)
        have hu16 : us 16 = .agg #[x, y] := hus 16 (by decide)
        have hu17 : us 17 = .slice (some ⟨b2, o2, none⟩) l.length cb := hus 17 (by decide)
        have hu18 : us 18 = .int .i64 (d : Int) := hus 18 (by decide)
        have hu19 : us 19 = .pointer (some ⟨b2, o2 + d * 3, none⟩) := hus 19 (by decide)
        have hu20 : us 20 = .pointer (some ⟨b2, o2 + d * 3 + 1, none⟩) := hus 20 (by decide)
        have hu21 : us 21 = .agg #[x', y'] := hus 21 (by decide)
        clear hus
        simp only [List.drop_succ_cons, List.drop_zero, List.take_succ_cons, List.take_zero, fill, Act.put, List.setIfInBounds_toArray, List.set_cons_succ, List.set_cons_zero, hu0, hu1, hu2, hu3, hu4, hu5, hu6, hu7, hu8, hu9, hu10, hu11, hu12, hu13, hu14, hu15, hu16, hu17, hu18, hu19, hu20, hu21]
        clear hu0 hu1 hu2 hu3 hu4 hu5 hu6 hu7 hu8 hu9 hu10 hu11 hu12 hu13 hu14 hu15 hu16 hu17 hu18 hu19 hu20 hu21
        have hsm := same_calls l[d].2 l[d].2 _ _ W3 (HX.out.later hW3) (HX'.out.later hW3) S1.out S1.out
        rw [T.same_iff.2 rfl] at hsm
        have HSM := Lib.hid hsm
        clear hsm a0 a1 a2 b0 b1' b2'
        go_wp2_with fail
        refine HSM.out.mono ?_
        rintro e w4 ⟨rfl, hb4⟩
        have HB4 := Lib.hid (hB.trans ((hW3.trans (hb4.mono hW3.size)).mono hzr))
        clear hb4 hW3
        go_wp2
        go_roundg (gk - 1)
        case rel => exact ⟨d + 1, by omega, by go_num, HB4.out⟩
        case measure => omega
    · go_wp2
      go_ret
      exact ⟨rfl, hB⟩
end Go.Proofs.Ytokhnlhffnidmaa
