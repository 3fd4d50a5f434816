/- The net's solve. -/
import Derived.Test.YtokhnlhffnidmaaRefH
namespace Go.Proofs.Ytokhnlhffnidmaa
open Go.RowKit Elen

theorem Try.infoP : (Try.prog.info? 57).map (fun i => (i.zero, i.size, i.bytes)) = some (some (.agg #[.int .i64 0, .int .i64 0]), 2, 16) := by kernel_rfl

def SolvePost (F : Nat → Prop) (base gn : Nat) (lv : Value) (av : Nat → Value) (q : Option (List Nd × Sub)) (w : World) (e : Ending) (w' : World) : Prop :=
  e = .returned (.bool q.isSome) ∧ (∀ n' s', q = some (n', s') → ∃ cs, NetB F base w' gn n' lv cs av) ∧ (∀ k, k < w.heap.size → ¬ F k → w'.heap[k]? = w.heap[k]?) ∧ Below base w w'

/-- one step of the run -/
inductive RStep (n : List Nd) (s : Sub) (m : Elen.Met) (i j : Nat) (l : List (Nat × Nat)) (q : Option (List Nd × Sub)) : Nat → Prop
  | occurs {a b t t'} {x y : Nd} : At2 n i j a b x y → x.head < 0 → Den n b t → Full s t t' → T.has (-1 - x.head) t' = true → q = none → RStep n s m i j l q 0
  | bind {k a b t t'} {x y : Nd} : At2 n i j a b x y → x.head < 0 → Den n b t → Full s t t' → T.has (-1 - x.head) t' = false → RRunK k (setTo n a b) (s.set (-1 - x.head) t) m l q → RStep n s m i j l q (k + 1)
  | clash {x y : Nd} : n[i]? = some x → n[j]? = some y → 0 ≤ x.head → 0 ≤ y.head → (x.head ≠ y.head ∨ x.args.length ≠ y.args.length) → q = none → RStep n s m i j l q 0
  | node {k} {x y : Nd} : n[i]? = some x → n[j]? = some y → 0 ≤ x.head → 0 ≤ y.head → x.head = y.head → x.args.length = y.args.length → RRunK k n s (m.add i j) (x.args.zip y.args ++ l) q → RStep n s m i j l q (k + 1)
theorem RRunK.inv {k : Nat} {n : List Nd} {s : Sub} {m : Elen.Met} {l : List (Nat × Nat)} {q : Option (List Nd × Sub)} (h : RRunK k n s m l q) :
    (l = [] ∧ q = some (n, s)) ∨ ∃ p1 p2 l1 i j, l = (p1, p2) :: l1 ∧ Beh n p1 i ∧ Beh n p2 j ∧ (((i = j ∨ (i ≠ j ∧ m i j = true)) ∧ ∃ k', k = k' + 1 ∧ RRunK k' n s m l1 q) ∨ (i ≠ j ∧ m i j = false ∧ RStep n s m i j l1 q k)) := by
  cases h with
  | nil => exact .inl ⟨rfl, rfl⟩
  | @skip k _ _ _ p i j l _ h1 h2 h3 h4 =>
    refine .inr ⟨p.1, p.2, l, i, j, rfl, h1, h2, .inl ⟨?_, k, rfl, h4⟩⟩
    by_cases c : i = j
    · exact .inl c
    · exact .inr ⟨c, h3.resolve_left c⟩
  | @occurs _ _ _ p i j a b l t t' x y h1 h2 h3 h4 h5 h6 h7 h8 h9 => exact .inr ⟨p.1, p.2, l, i, j, rfl, h1, h2, .inr ⟨h3, h4, .occurs h5 h6 h7 h8 h9 rfl⟩⟩
  | @bind k _ _ _ p i j a b l _ t t' x y h1 h2 h3 h4 h5 h6 h7 h8 h9 h10 => exact .inr ⟨p.1, p.2, l, i, j, rfl, h1, h2, .inr ⟨h3, h4, .bind h5 h6 h7 h8 h9 h10⟩⟩
  | @clash _ _ _ p i j l x y h1 h2 h3 h4 h5 h6 h7 h8 h9 => exact .inr ⟨p.1, p.2, l, i, j, rfl, h1, h2, .inr ⟨h3, h4, .clash h5 h6 h7 h8 h9 rfl⟩⟩
  | @node k _ _ _ p i j l _ x y h1 h2 h3 h4 h5 h6 h7 h8 h9 h10 h11 => exact .inr ⟨p.1, p.2, l, i, j, rfl, h1, h2, .inr ⟨h3, h4, .node h5 h6 h7 h8 h9 h10 h11⟩⟩

/-- how many pairs were not met -/
def unmet (n : Nat) (m : Elen.Met) : Nat := ((List.range (n * n)).filter fun k => !m (k / n) (k % n)).length
theorem unmet_le (n : Nat) (m : Elen.Met) : unmet n m ≤ n * n := by
  have := List.length_filter_le (fun k => !m (k / n) (k % n)) (List.range (n * n))
  simpa [unmet] using this
theorem unmet_add {n : Nat} {m : Elen.Met} {i j : Nat} (hi : i < n) (hj : j < n) (hm : m i j = false) : unmet n (m.add i j) < unmet n m := by
  have hd : (i * n + j) / n = i := by rw [Nat.mul_comm, Nat.mul_add_div (by omega), Nat.div_eq_of_lt hj]; omega
  have hr : (i * n + j) % n = j := by rw [Nat.mul_comm, Nat.mul_add_mod, Nat.mod_eq_of_lt hj]
  refine Elen.filter_lt _ _ _ (fun x hx => ?_) (a := i * n + j) ?_ ?_ ?_
  · simp only [Elen.Met.add, Bool.not_eq_true'] at hx ⊢
    split at hx
    · cases hx
    · exact hx
  · rw [List.mem_range]
    have : (i + 1) * n ≤ n * n := Nat.mul_le_mul_right _ hi
    rw [Nat.add_mul] at this; omega
  · simp only [hd, hr, hm]; rfl
  · simp only [hd, hr, Elen.Met.add]; simp

theorem row_sl {F : Nat → Prop} {w : World} {l : List (Nat × Nat)} {b o n c : Nat} (h : Sl KP F w l (.slice (some ⟨b, o, none⟩) n c)) : Row KP (fun _ => False) w l b o := by
  obtain ⟨A, c', e, h1, h2, h3⟩ := h
  cases e
  intro i hi
  obtain ⟨b', o', e, hb, hr⟩ := h3 (by omega)
  cases e
  obtain ⟨vs, k1, k2⟩ := hr i hi
  exact ⟨vs, k1, k2⟩

theorem tail_sl {F : Nat → Prop} {w : World} {p : Nat × Nat} {l : List (Nat × Nat)} {b o c : Nat} (h : Sl KP F w (p :: l) (.slice (some ⟨b, o, none⟩) (l.length + 1) c)) : Sl KP F w l (.slice (some ⟨b, o + 2, none⟩) l.length (c - 1)) := by
  obtain ⟨A, c', e, h1, h2, h3⟩ := h
  cases e
  refine ⟨some ⟨b, o + 2, none⟩, c - 1, rfl, by simp at h1; omega, by have e : (KP).by_ = 16 := rfl; rw [e, List.length_cons] at h2; rw [e]; omega, fun hl => ?_⟩
  obtain ⟨b', o', e, hb, hr⟩ := h3 (by simp)
  cases e
  refine ⟨b, o + 2, rfl, hb, fun i hi => ?_⟩
  obtain ⟨vs, k1, k2⟩ := hr (i + 1) (by simpa using hi)
  refine ⟨vs, by simpa using k1, fun j hj => ?_⟩
  have := k2 j hj
  have hz : (KP).sz = 2 := rfl
  rw [hz] at this ⊢
  rw [show o + 2 + i * 2 + j = o + (i + 1) * 2 + j from by omega]
  exact this

set_option maxRecDepth 100000 in
set_option maxHeartbeats 20000000 in
theorem solve_calls (F : Nat → Prop) (base gn : Nat) (lv : Value) (av : Nat → Value) (N : List Nd) (s : Sub) (l : List (Nat × Nat)) (q : Option (List Nd × Sub)) (cs : List Value) (w : World) (v : Value) (hn : Net N) (hr : Rep N s)
    (hrun : RRun N s (fun _ _ => false) l q) (hN : NetB F base w gn N lv cs av) (hl : Sl KP (fun k => ¬ F k) w l v) (hA8 : ∀ (i : Nat) (nd : Nd), N[i]? = some nd → nd.args.length ≤ 8) (hbd : l.length + 8 * (N.length * N.length) ≤ 1000000000000) :
    Calls Try.prog 23 #[.pointer (some ⟨gn, 0, none⟩), v] w (SolvePost F base gn lv av q w) := by
  obtain ⟨Al, cl, rfl⟩ := own_shape hN.own
  obtain ⟨K, hK⟩ := hrun.count
  have hroom := hN.room
  have kn := cell_of_block hN.at_ (j := 0) (v := .slice Al N.length cl) rfl
  have hgn := (hN.lt gn hN.fn).2
  have hbs : base ≤ w.heap.size := by have := (hN.lt gn hN.fn).1; omega
  have HN := Lib.hid hN
  have HK := Lib.hid hK
  have HL := Lib.hid hl
  have HNT := Lib.hid hn
  have HR := Lib.hid hr
  have HA8 := Lib.hid hA8
  have HBD := Lib.hid hbd
  clear hN hK hl hn hr hrun hA8 hbd
  have hmt : ∀ W : World, (Instr.makeSlice 84 (.int .i64 (N.length : Int)) (.int .i64 (N.length : Int))).run Try.prog W = .ok (.slice (some ⟨W.heap.size, 0, none⟩) N.length N.length) (W.alloc (.cells (madeCells #[.slice none 0 0] N.length) 85)) := fun W =>
    run_make_row' 84 85 (.slice none 0 0) 24 Try.underlying84 (by kernel_rfl) rfl .i64 .i64 N.length (by omega) (by omega) W
  have hmk : ∀ W : World, (Instr.makeSlice 85 (.int .i64 (N.length : Int)) (.int .i64 (N.length : Int))).run Try.prog W = .ok (.slice (some ⟨W.heap.size, 0, none⟩) N.length N.length) (W.alloc (.cells (madeCells #[.bool false] N.length) 4)) := fun W =>
    run_make_row' 85 4 (.bool false) 1 Try.underlying85 (by kernel_rfl) rfl .i64 .i64 N.length (by omega) (by omega) W
  go_enter Try.func23, Try.ntmps23
  go_upto_block 0 with fail
  go_cut [6] (fun _ wc => Below w.heap.size w wc ∧ ∃ rm, MetP w.heap.size wc w.heap.size N.length N.length rm fun _ _ => false)
  case first =>
    clear hmt
    go_wp2_with fail
    go_loopg [6] (N.length + 1) (fun k i wr => ∃ d : Nat, d + k = N.length + 1 ∧ i = .int .i64 d ∧ d ≤ N.length ∧ Below w.heap.size w wr ∧ ∃ rm, MetP w.heap.size wr w.heap.size N.length d rm fun _ _ => false)
    case atStart => exact ⟨0, by omega, rfl, by omega, (Below.refl _ _).alloc (Nat.le_refl _) _, _, MetP.made _⟩
    case round =>
      obtain ⟨d, hdk, rfl, hdl, hB, rm, hM⟩ := hrel
      have hzb := hB.size
      have kn1 := cell_kept hB kn
      have hgr : w.heap.size < wr.heap.size := (hM.ge _ (.inl rfl)).2
      have HB := Lib.hid hB
      have HM := Lib.hid hM
      by_cases hd : d < N.length
      · obtain ⟨tops, t1, t2, t3⟩ := hM.top
        obtain ⟨u0, hu0⟩ : ∃ u, tops[d]? = some u := ⟨tops[d]'(by omega), List.getElem?_eq_getElem (by omega)⟩
        have kt := cell_of_block t1 (j := d) (v := u0) (by simpa using hu0)
        have ktf := frozen_of_block t1 d
        clear hB hM kn t1 t2 t3 hu0
        go_wp2
        go_roundg (gk - 1)
        case rel => exact ⟨d + 1, by omega, by go_num, by omega, (HB.out.setCell (p := ⟨w.heap.size, d, none⟩) (Nat.le_refl _) _).alloc (by simpa [World.setCell] using hzb) _, _, (World.setCell_alloc_past _ _ _ _ hgr) ▸ HM.out.more hd⟩
        case measure => omega
      · have : d = N.length := by omega
        subst this
        clear hB hM kn
        go_wp2
        go_meet
        exact ⟨HB.out, rm, HM.out⟩
  case rest =>
    obtain ⟨hB, rm, hM⟩ := hcut
    have hB0 := HN.out.keep (w1 := wc) (fun k hk => hB.block k (HN.out.lt k hk).2) hB.size
    have HNB0 := Lib.hid hB0
    have HB0 := Lib.hid hB
    have HM0 := Lib.hid hM
    have HL0 := Lib.hid (HL.out.bound.later hB)
    clear hB hM hB0 hmt kn HL
    generalize hgm : w.heap.size = gm at *
    go_wp2_with fail
    go_loopg [1] (K + 1) (fun k v wr => ∃ (n : List Nd) (s : Sub) (m : Elen.Met) (l : List (Nat × Nat)) (cs : List Value) (kk : Nat), kk + 1 = k ∧ RRunK kk n s m l q ∧ n.length = N.length ∧ (l.length + 8 * unmet N.length m ≤ 1000000000000 ∧ ∀ (i : Nat) (nd : Nd), n[i]? = some nd → nd.args.length ≤ 8) ∧ Net n ∧ Rep n s ∧ NetB F base wr gn n (.slice Al N.length cl) cs av ∧
      MetP gm wr gm N.length N.length rm m ∧ Sl KP (fun k => ¬ F k ∧ ¬ Mb gm N.length rm k) wr l v ∧ Below base w wr ∧ (∀ k, k < gm → ¬ F k → wr.heap[k]? = w.heap[k]?))
    case atStart =>
      refine ⟨N, s, _, l, cs, K, rfl, HK.out, rfl, ⟨by have := unmet_le N.length (fun _ _ => false); have := HBD.out; omega, HA8.out⟩, HNT.out, HR.out, HNB0.out, HM0.out, ?_, HB0.out.mono hbs, fun k hk _ => HB0.out.block k (by omega)⟩
      exact HL0.out.mono (fun b hb => ⟨hb.1, fun h => by have := (HM0.out.ge b h).1; omega⟩)
    case round =>
      obtain ⟨n, s1, m, l1, cs1, kk, hkk, hrun, hlen, hLB, hn1, hr1, hNB, hM, hSl, hB, hKe⟩ := hrel
      have hNRt := hn1.tos
      have HNB := Lib.hid hNB
      have HM := Lib.hid hM
      have HSl := Lib.hid hSl
      have HB := Lib.hid hB
      have HKe := Lib.hid hKe
      have HN1 := Lib.hid hn1
      have HLB := Lib.hid hLB
      clear hLB
      have HR1 := Lib.hid hr1
      have hzb := hB.size
      rcases hrun.inv with ⟨rfl, rfl⟩ | ⟨p1, p2, l2, i, j, rfl, bi, bj, hstep⟩
      · obtain ⟨A, c, rfl, -, -, -⟩ := id hSl
        have hA : ([] : List (Nat × Nat)).length = 0 := rfl
        clear hNB hM hSl hB hKe hn1 hr1 hNRt hrun HNB0 HM0 HB0 HL0
        go_wp2
        go_ret
        exact ⟨rfl, fun n' s' e => by cases e; exact ⟨_, HNB.out⟩, fun k hk hF => HKe.out k (by omega) hF, HB.out⟩
      · obtain ⟨A, c, rfl, hc1, hc2, -⟩ := id hSl
        obtain ⟨b, o, rfl, hFb, hlt, hrow⟩ := hSl.get (by simp)
        obtain ⟨vs, rfl, hcell⟩ := hrow 0 (by simp)
        have ke0 := hcell 0 (by simp)
        have ke1 := hcell 1 (by simp)
        have hz2 : (KP).sz = 2 := rfl
        rw [hz2] at ke0 ke1
        simp only [Nat.zero_mul, Nat.add_zero, List.getElem_cons_zero, List.getElem_cons_succ] at ke0 ke1
        obtain ⟨ndi, hi, hito⟩ := bi.at_end
        obtain ⟨ndj, hj, hjto⟩ := bj.at_end
        have hil : i < n.length := (List.getElem?_eq_some_iff.1 hi).1
        have hjl : j < n.length := (List.getElem?_eq_some_iff.1 hj).1
        obtain ⟨g, cap, e1, hFg, kc, kf, hcs1⟩ := hNB.cells (by omega)
        rw [hlen] at e1
        simp only [Value.slice.injEq] at e1
        obtain ⟨rfl, -, rfl⟩ := e1
        obtain ⟨g', cap', hNR⟩ := hNB.netR (by omega)
        obtain ⟨rfl, rfl⟩ : g = g' ∧ cl = cap' := by
          have := hNR.1
          rw [kc] at this
          simp only [Option.some.injEq, Value.slice.injEq, Addr.mk.injEq] at this
          exact ⟨this.1.1, this.2.2⟩
        obtain ⟨ki, BKi⟩ := bi.count
        obtain ⟨kj, BKj⟩ := bj.count
        obtain ⟨km1, km2, km3⟩ := hM.cells (a := i) (b := j) (by omega) (by omega)
        have HNR := Lib.hid hNR
        have HBi := Lib.hid BKi
        have HBj := Lib.hid BKj
        have HI := Lib.hid hi
        have HJ := Lib.hid hj
        have HST := Lib.hid hstep
        have HTos := Lib.hid hNRt
        have HBI := Lib.hid bi
        have HBJ := Lib.hid bj
        have hin : i < N.length := by omega
        have hjn : j < N.length := by omega
        simp only [List.length_cons] at *
        clear hNB hM hSl hB hKe hn1 hr1 hNRt hrun HNB0 HM0 HB0 HL0 hrow hcell hNR BKi BKj hi hj hstep bi bj
        have HCS := Lib.hid hcs1
        have HFG := Lib.hid hFg
        have HT1 : Hid (Sl KP (fun k => ¬ F k ∧ ¬ Mb gm N.length rm k) wr l2 (.slice (some ⟨b, o + 2, none⟩) l2.length (c - 1))) := by
          have := tail_sl HSl.out
          exact this
        have HT2 : Hid (c = 1 → Sl KP (fun k => ¬ F k ∧ ¬ Mb gm N.length rm k) wr l2 (.slice (some ⟨b, o, none⟩) l2.length 0)) := by
          have : c = 1 → Sl KP (fun k => ¬ F k ∧ ¬ Mb gm N.length rm k) wr l2 (.slice (some ⟨b, o, none⟩) l2.length 0) := fun e => by
            have : l2 = [] := List.length_eq_zero_iff.1 (by omega)
            subst this
            exact ⟨_, 0, rfl, by simp, by simp, fun h => by simp at h⟩
          exact this
        clear hcs1 hFg
        go_wp2_with fail
        refine (behind_calls F wr gn g cl n HNR.out ki p1 _ HBi.out HTos.out).mono ?_
        rintro e w2 ⟨rfl, rfl⟩
        go_wp2_with fail
        refine (behind_calls F wr gn g cl n HNR.out kj p2 _ HBj.out HTos.out).mono ?_
        rintro e w2 ⟨rfl, rfl⟩
        rcases HST.out with ⟨hsk, k', rfl, hrun'⟩ | ⟨hne, hmf, hst⟩
        · have HRun := Lib.hid hrun'
          clear hrun'
          rcases hsk with rfl | ⟨hne, hmt⟩
          · go_wp2_with fail
            all_goals
              go_roundg (gk - 1)
              case rel => exact ⟨n, s1, m, l2, cs1, k', by omega, HRun.out, hlen, ⟨by have := HLB.out.1; omega, HLB.out.2⟩, HN1.out, HR1.out, HNB.out, HM.out, (by first | exact HT1.out | exact HT2.out (by omega)), HB.out, HKe.out⟩
              case measure => omega
          · rw [hmt] at km2
            go_wp2_with fail
            all_goals
              go_roundg (gk - 1)
              case rel => exact ⟨n, s1, m, l2, cs1, k', by omega, HRun.out, hlen, ⟨by have := HLB.out.1; omega, HLB.out.2⟩, HN1.out, HR1.out, HNB.out, HM.out, (by first | exact HT1.out | exact HT2.out (by omega)), HB.out, HKe.out⟩
              case measure => omega
        · rw [hmf] at km2
          have hHI := HNR.out.get HI.out
          have hHJ := HNR.out.get HJ.out
          obtain ⟨-, ka0, -, -⟩ := hHI
          obtain ⟨-, kb0, -, -⟩ := hHJ
          have hgw := World.block_lt_of_cell? wr _ ka0
          have hgnw := World.block_lt_of_cell? wr _ kc
          go_wp2_with fail
          all_goals
            refine wp_mix 16 191 (fun ix _ u => match ix with | 0 => u = .pointer (some ⟨gn, 0, none⟩) | 1 => u = .pointer (some ⟨gn, 0, none⟩) | 2 => u = .pointer (some ⟨gn, 0, none⟩) | 3 => u = .slice (some ⟨g, 0, none⟩) N.length cl | 4 => u = .int .i64 (i : Int) | 5 => u = .pointer (some ⟨g, i * 3, none⟩) | 6 => u = .pointer (some ⟨g, i * 3, none⟩) | 7 => u = .int .i64 ndi.head | 8 => u = .pointer (some ⟨gn, 0, none⟩) | 9 => u = .pointer (some ⟨gn, 0, none⟩) | 10 => u = .pointer (some ⟨gn, 0, none⟩) | 11 => u = .slice (some ⟨g, 0, none⟩) N.length cl | 12 => u = .int .i64 (j : Int) | 13 => u = .pointer (some ⟨g, j * 3, none⟩) | 14 => u = .pointer (some ⟨g, j * 3, none⟩) | 15 => u = .int .i64 ndj.head | _ => True) (by kernel_rfl) rfl (by decide +kernel) (fun ix W W' u _ h => h) ?_ ?_
            · refine goes_cons rfl ?_ (goes_cons rfl ?_ (goes_cons rfl ?_ (goes_cons rfl ?_ (goes_cons rfl ?_ (goes_cons rfl ?_ (goes_cons rfl ?_ (goes_cons rfl ?_ (goes_cons rfl ?_ (goes_cons rfl ?_ (goes_cons rfl ?_ (goes_cons rfl ?_ (goes_cons rfl ?_ (goes_cons rfl ?_ (goes_cons rfl ?_ (goes_cons rfl ?_ (goes_nil))))))))))))))))
              · intro ρ W hW hc hg hf hbase hdeps
                obtain ⟨hk, -⟩ := bcell hW
                have r0 := hbase 0 (by kernel_rfl)
                clear hbase hdeps
                go_simp
                exact ⟨Below.refl _ _, rfl⟩
              · intro ρ W hW hc hg hf hbase hdeps
                obtain ⟨hk, -⟩ := bcell hW
                have r63 : ρ (.tmp 63) = .pointer (some ⟨gn, 0, none⟩) := hdeps 0 _ 63 (by kernel_rfl) rfl rfl
                clear hbase hdeps
                go_simp
                exact ⟨Below.refl _ _, rfl⟩
              · intro ρ W hW hc hg hf hbase hdeps
                obtain ⟨hk, -⟩ := bcell hW
                have r64 : ρ (.tmp 64) = .pointer (some ⟨gn, 0, none⟩) := hdeps 1 _ 64 (by kernel_rfl) rfl rfl
                clear hbase hdeps
                go_simp
                exact ⟨Below.refl _ _, rfl⟩
              · intro ρ W hW hc hg hf hbase hdeps
                obtain ⟨hk, -⟩ := bcell hW
                have r65 : ρ (.tmp 65) = .pointer (some ⟨gn, 0, none⟩) := hdeps 2 _ 65 (by kernel_rfl) rfl rfl
                clear hbase hdeps
                go_simp
                exact ⟨Below.refl _ _, rfl⟩
              · intro ρ W hW hc hg hf hbase hdeps
                obtain ⟨hk, -⟩ := bcell hW
                have r7 := hbase 7 (by kernel_rfl)
                clear hbase hdeps
                go_simp
                exact ⟨Below.refl _ _, rfl⟩
              · intro ρ W hW hc hg hf hbase hdeps
                obtain ⟨hk, -⟩ := bcell hW
                have r66 : ρ (.tmp 66) = .slice (some ⟨g, 0, none⟩) N.length cl := hdeps 3 _ 66 (by kernel_rfl) rfl rfl
                have r67 : ρ (.tmp 67) = .int .i64 (i : Int) := hdeps 4 _ 67 (by kernel_rfl) rfl rfl
                clear hbase hdeps
                go_simp
                exact ⟨Below.refl _ _, rfl⟩
              · intro ρ W hW hc hg hf hbase hdeps
                obtain ⟨hk, -⟩ := bcell hW
                have r68 : ρ (.tmp 68) = .pointer (some ⟨g, i * 3, none⟩) := hdeps 5 _ 68 (by kernel_rfl) rfl rfl
                clear hbase hdeps
                go_simp
                exact ⟨Below.refl _ _, rfl⟩
              · intro ρ W hW hc hg hf hbase hdeps
                obtain ⟨hk, -⟩ := bcell hW
                have r69 : ρ (.tmp 69) = .pointer (some ⟨g, i * 3, none⟩) := hdeps 6 _ 69 (by kernel_rfl) rfl rfl
                clear hbase hdeps
                go_simp
                exact ⟨Below.refl _ _, rfl⟩
              · intro ρ W hW hc hg hf hbase hdeps
                obtain ⟨hk, -⟩ := bcell hW
                have r0 := hbase 0 (by kernel_rfl)
                clear hbase hdeps
                go_simp
                exact ⟨Below.refl _ _, rfl⟩
              · intro ρ W hW hc hg hf hbase hdeps
                obtain ⟨hk, -⟩ := bcell hW
                have r71 : ρ (.tmp 71) = .pointer (some ⟨gn, 0, none⟩) := hdeps 8 _ 71 (by kernel_rfl) rfl rfl
                clear hbase hdeps
                go_simp
                exact ⟨Below.refl _ _, rfl⟩
              · intro ρ W hW hc hg hf hbase hdeps
                obtain ⟨hk, -⟩ := bcell hW
                have r72 : ρ (.tmp 72) = .pointer (some ⟨gn, 0, none⟩) := hdeps 9 _ 72 (by kernel_rfl) rfl rfl
                clear hbase hdeps
                go_simp
                exact ⟨Below.refl _ _, rfl⟩
              · intro ρ W hW hc hg hf hbase hdeps
                obtain ⟨hk, -⟩ := bcell hW
                have r73 : ρ (.tmp 73) = .pointer (some ⟨gn, 0, none⟩) := hdeps 10 _ 73 (by kernel_rfl) rfl rfl
                clear hbase hdeps
                go_simp
                exact ⟨Below.refl _ _, rfl⟩
              · intro ρ W hW hc hg hf hbase hdeps
                obtain ⟨hk, -⟩ := bcell hW
                have r8 := hbase 8 (by kernel_rfl)
                clear hbase hdeps
                go_simp
                exact ⟨Below.refl _ _, rfl⟩
              · intro ρ W hW hc hg hf hbase hdeps
                obtain ⟨hk, -⟩ := bcell hW
                have r74 : ρ (.tmp 74) = .slice (some ⟨g, 0, none⟩) N.length cl := hdeps 11 _ 74 (by kernel_rfl) rfl rfl
                have r75 : ρ (.tmp 75) = .int .i64 (j : Int) := hdeps 12 _ 75 (by kernel_rfl) rfl rfl
                clear hbase hdeps
                go_simp
                exact ⟨Below.refl _ _, rfl⟩
              · intro ρ W hW hc hg hf hbase hdeps
                obtain ⟨hk, -⟩ := bcell hW
                have r76 : ρ (.tmp 76) = .pointer (some ⟨g, j * 3, none⟩) := hdeps 13 _ 76 (by kernel_rfl) rfl rfl
                clear hbase hdeps
                go_simp
                exact ⟨Below.refl _ _, rfl⟩
              · intro ρ W hW hc hg hf hbase hdeps
                obtain ⟨hk, -⟩ := bcell hW
                have r77 : ρ (.tmp 77) = .pointer (some ⟨g, j * 3, none⟩) := hdeps 14 _ 77 (by kernel_rfl) rfl rfl
                clear hbase hdeps
                go_simp
                exact ⟨Below.refl _ _, rfl⟩
            · intro us W1 hW1 hus
              have hu0 : us 0 = .pointer (some ⟨gn, 0, none⟩) := hus 0 (by decide)
              have hu1 : us 1 = .pointer (some ⟨gn, 0, none⟩) := hus 1 (by decide)
              have hu2 : us 2 = .pointer (some ⟨gn, 0, none⟩) := hus 2 (by decide)
              have hu3 : us 3 = .slice (some ⟨g, 0, none⟩) N.length cl := hus 3 (by decide)
              have hu4 : us 4 = .int .i64 (i : Int) := hus 4 (by decide)
              have hu5 : us 5 = .pointer (some ⟨g, i * 3, none⟩) := hus 5 (by decide)
              have hu6 : us 6 = .pointer (some ⟨g, i * 3, none⟩) := hus 6 (by decide)
              have hu7 : us 7 = .int .i64 ndi.head := hus 7 (by decide)
              have hu8 : us 8 = .pointer (some ⟨gn, 0, none⟩) := hus 8 (by decide)
              have hu9 : us 9 = .pointer (some ⟨gn, 0, none⟩) := hus 9 (by decide)
              have hu10 : us 10 = .pointer (some ⟨gn, 0, none⟩) := hus 10 (by decide)
              have hu11 : us 11 = .slice (some ⟨g, 0, none⟩) N.length cl := hus 11 (by decide)
              have hu12 : us 12 = .int .i64 (j : Int) := hus 12 (by decide)
              have hu13 : us 13 = .pointer (some ⟨g, j * 3, none⟩) := hus 13 (by decide)
              have hu14 : us 14 = .pointer (some ⟨g, j * 3, none⟩) := hus 14 (by decide)
              have hu15 : us 15 = .int .i64 ndj.head := hus 15 (by decide)
              clear hus
              simp only [List.drop_succ_cons, List.drop_zero, List.take_succ_cons, List.take_zero, fill, Act.put, List.setIfInBounds_toArray, List.set_cons_succ, List.set_cons_zero, hu0, hu1, hu2, hu3, hu4, hu5, hu6, hu7, hu8, hu9, hu10, hu11, hu12, hu13, hu14, hu15]
              clear hu0 hu1 hu2 hu3 hu4 hu5 hu6 hu7 hu8 hu9 hu10 hu11 hu12 hu13 hu14 hu15
              have HX := Lib.hid hW1
              have hzW := hW1.size
              have KC0 := Lib.hid kc
              have kcW := cell_kept HX.out kc
              have kfW := (World.frozen?_of_block (a := ⟨gn, 0, none⟩) (HX.out.block gn hgnw)).trans kf
              have hgW : g < W1.heap.size := by omega
              clear hW1 km1 km2 km3 ke0 ke1 kf kc ka0 kb0
              have hFlt : ∀ k, F k → k < gm := fun k hk => by rw [← hgm]; exact (HN.out.lt k hk).2
              have HFlt := Lib.hid hFlt
              have hgmw : gm ≤ wr.heap.size := by omega
              have HHne : Hid (∀ x y : Nd, x.head < 0 → n[i]? = some x → n[j]? = some y → x.head ≠ y.head) := by
                have : ∀ x y : Nd, x.head < 0 → n[i]? = some x → n[j]? = some y → x.head ≠ y.head := fun x y h0 h1 h2 e => hne (HN1.out.uniq i j x y h1 h2 h0 e)
                exact this
              have HHne' : Hid (∀ x y : Nd, x.head < 0 → n[j]? = some x → n[i]? = some y → x.head ≠ y.head) := by
                have : ∀ x y : Nd, x.head < 0 → n[j]? = some x → n[i]? = some y → x.head ≠ y.head := fun x y h0 h1 h2 e => hne (HN1.out.uniq j i x y h1 h2 h0 e).symm
                exact this
              clear hFlt
              have HST := Lib.hid hst
              clear hst
              have HKK := Lib.hid hkk
              clear hkk
              cases HST.out with
              | @occurs va vb t t' x y at2 hx0 hdn hft hhas hq =>
                have HQ := Lib.hid hq
                clear hq
                obtain ⟨hwh, ga, gb⟩ := at2
                rcases hwh with ⟨rfl, rfl, hw⟩ | ⟨rfl, rfl, hw⟩
                ·
                  have e1 := HI.out.symm.trans ga
                  have e2 := HJ.out.symm.trans gb
                  cases e1; cases e2
                  have hcode : bcode ndi.head ndj.head = 1 := by
                    have := HHne.out ndi ndj hx0 ga gb
                    unfold bcode
                    by_cases c : ndj.head < 0
                    · rw [if_pos ⟨hx0, c⟩, if_pos (by omega)]
                    · rw [if_neg (fun h => c h.2), if_pos hx0]
                  have HCODE := Lib.hid hcode
                  have hato : ndi.to < 0 := by assumption
                  have HGA := Lib.hid ga
                  have HDN := Lib.hid hdn
                  have HFT := Lib.hid hft
                  have HHAS := Lib.hid hhas
                  have HW := Lib.hid hw
                  clear hcode hw ga gb hdn hft hhas
                  go_wp2_with fail
                  refine (bound_calls _ _ _).mono ?_
                  rintro e w' ⟨he, rfl⟩
                  rw [HCODE.out] at he
                  subst he
                  go_wp2_with fail
                  have hb3 : Below wr.heap.size wr (W1.alloc (.cells (madeCells #[.bool false] N.length) 4)) := HX.out.alloc hzW _
                  have hnr3 : NetR (· ≠ W1.heap.size) (W1.alloc (.cells (madeCells #[.bool false] N.length) 4)) gn g cl n := by
                    have h1 := (HNR.out.bound (by omega)).later HX.out
                    exact NetR.mono (fun k h e => by have := h.2; omega) (h1.later ((Below.refl _ _).alloc (Nat.le_refl _) _))
                  have hh := has_calls n s1 HN1.out HR1.out gn g cl W1.heap.size va ndi HGA.out hx0 hato t'.size vb t t' (List.replicate n.length false) (W1.alloc (.cells (madeCells #[.bool false] N.length) 4)) (Nat.le_refl _) HDN.out HFT.out hnr3 (by rw [hlen]; exact made_seen W1 N.length) (by simp) (seenInv_none _ _ _ _ _)
                  rw [hlen] at hh
                  refine hh.mono ?_
                  rintro e w3 ⟨S3, rfl, hG3, -, -, -⟩
                  rw [HHAS.out]
                  have HX3 := Lib.hid (hb3.grown hG3 (by simp; omega) (fun k e => by cases e; exact hzW))
                  clear hb3 hnr3 hh hG3
                  go_wp2
                  go_ret
                  rw [HQ.out]
                  exact ⟨rfl, fun _ _ e => (by cases e), fun k hk hF => (HX3.out.block k (by omega)).trans (HKe.out k (by omega) hF), HB.out.trans (HX3.out.mono (by omega))⟩
                ·
                  have e1 := HI.out.symm.trans gb
                  have e2 := HJ.out.symm.trans ga
                  cases e1; cases e2
                  have hcode : bcode ndi.head ndj.head = 2 := by
                    have := HHne'.out ndj ndi hx0 ga gb
                    unfold bcode
                    by_cases c : ndi.head < 0
                    · rw [if_pos ⟨c, hx0⟩, if_neg (by omega)]
                    · rw [if_neg (fun h => c h.1), if_neg c, if_pos hx0]
                  have HCODE := Lib.hid hcode
                  have hato : ndj.to < 0 := by assumption
                  have HGA := Lib.hid ga
                  have HDN := Lib.hid hdn
                  have HFT := Lib.hid hft
                  have HHAS := Lib.hid hhas
                  have HW := Lib.hid hw
                  clear hcode hw ga gb hdn hft hhas
                  go_wp2_with fail
                  refine (bound_calls _ _ _).mono ?_
                  rintro e w' ⟨he, rfl⟩
                  rw [HCODE.out] at he
                  subst he
                  go_wp2_with fail
                  have hb3 : Below wr.heap.size wr (W1.alloc (.cells (madeCells #[.bool false] N.length) 4)) := HX.out.alloc hzW _
                  have hnr3 : NetR (· ≠ W1.heap.size) (W1.alloc (.cells (madeCells #[.bool false] N.length) 4)) gn g cl n := by
                    have h1 := (HNR.out.bound (by omega)).later HX.out
                    exact NetR.mono (fun k h e => by have := h.2; omega) (h1.later ((Below.refl _ _).alloc (Nat.le_refl _) _))
                  have hh := has_calls n s1 HN1.out HR1.out gn g cl W1.heap.size va ndj HGA.out hx0 hato t'.size vb t t' (List.replicate n.length false) (W1.alloc (.cells (madeCells #[.bool false] N.length) 4)) (Nat.le_refl _) HDN.out HFT.out hnr3 (by rw [hlen]; exact made_seen W1 N.length) (by simp) (seenInv_none _ _ _ _ _)
                  rw [hlen] at hh
                  refine hh.mono ?_
                  rintro e w3 ⟨S3, rfl, hG3, -, -, -⟩
                  rw [HHAS.out]
                  have HX3 := Lib.hid (hb3.grown hG3 (by simp; omega) (fun k e => by cases e; exact hzW))
                  clear hb3 hnr3 hh hG3
                  go_wp2
                  go_ret
                  rw [HQ.out]
                  exact ⟨rfl, fun _ _ e => (by cases e), fun k hk hF => (HX3.out.block k (by omega)).trans (HKe.out k (by omega) hF), HB.out.trans (HX3.out.mono (by omega))⟩
              | @bind k' va vb t t' x y at2 hx0 hdn hft hhas hrun' =>
                have HRun := Lib.hid hrun'
                clear hrun'
                obtain ⟨hwh, ga, gb⟩ := at2
                rcases hwh with ⟨rfl, rfl, hw⟩ | ⟨rfl, rfl, hw⟩
                ·
                  have e1 := HI.out.symm.trans ga
                  have e2 := HJ.out.symm.trans gb
                  cases e1; cases e2
                  have hcode : bcode ndi.head ndj.head = 1 := by
                    have := HHne.out ndi ndj hx0 ga gb
                    unfold bcode
                    by_cases c : ndj.head < 0
                    · rw [if_pos ⟨hx0, c⟩, if_pos (by omega)]
                    · rw [if_neg (fun h => c h.2), if_pos hx0]
                  have HCODE := Lib.hid hcode
                  have hato : ndi.to < 0 := by assumption
                  have HGA := Lib.hid ga
                  have HDN := Lib.hid hdn
                  have HFT := Lib.hid hft
                  have HHAS := Lib.hid hhas
                  have HW := Lib.hid hw
                  clear hcode hw ga gb hdn hft hhas
                  go_wp2_with fail
                  refine (bound_calls _ _ _).mono ?_
                  rintro e w' ⟨he, rfl⟩
                  rw [HCODE.out] at he
                  subst he
                  go_wp2_with fail
                  have hb3 : Below wr.heap.size wr (W1.alloc (.cells (madeCells #[.bool false] N.length) 4)) := HX.out.alloc hzW _
                  have hnr3 : NetR (· ≠ W1.heap.size) (W1.alloc (.cells (madeCells #[.bool false] N.length) 4)) gn g cl n := by
                    have h1 := (HNR.out.bound (by omega)).later HX.out
                    exact NetR.mono (fun k h e => by have := h.2; omega) (h1.later ((Below.refl _ _).alloc (Nat.le_refl _) _))
                  have hh := has_calls n s1 HN1.out HR1.out gn g cl W1.heap.size va ndi HGA.out hx0 hato t'.size vb t t' (List.replicate n.length false) (W1.alloc (.cells (madeCells #[.bool false] N.length) 4)) (Nat.le_refl _) HDN.out HFT.out hnr3 (by rw [hlen]; exact made_seen W1 N.length) (by simp) (seenInv_none _ _ _ _ _)
                  rw [hlen] at hh
                  refine hh.mono ?_
                  rintro e w3 ⟨S3, rfl, hG3, -, -, -⟩
                  rw [HHAS.out]
                  have HX3 := Lib.hid (hb3.grown hG3 (by simp; omega) (fun k e => by cases e; exact hzW))
                  clear hb3 hnr3 hh hG3
                  have kt := HCS.out _ _ (HNB.out.cell _ _ HGA.out).2.2
                  obtain ⟨kt1, kt2⟩ := kt
                  have kt3 := cell_kept HX3.out kt1
                  have ktf3 := (World.frozen?_of_block (a := ⟨g, va * 3 + 2, none⟩) (HX3.out.block g hgw)).trans kt2
                  have kc3 := cell_kept HX3.out KC0.out
                  have hz3 := HX3.out.size
                  clear kt1 kt2 kcW kfW
                  have hnb4 := (HNB.out.keep (w1 := w3) (fun k hk => HX3.out.block k (HNB.out.lt k hk).2) hz3).to_ (a := va) (b := vb) (by first | exact hil | exact hjl) hlen.symm
                  have hm4 := HM.out.keep (w1 := w3.setCell ⟨g, va * 3 + 2, none⟩ (.int .i64 (vb : Int))) (fun k hk => (Below.heap_setCell _ _ _ _ (by have h1 := (HM.out.ge k hk).1; have h2 := HFlt.out g HFG.out; show k ≠ g; omega)).trans (HX3.out.block k (HM.out.ge k hk).2)) (by simpa [World.setCell] using hz3)
                  have hk4 : ∀ k, k < wr.heap.size → ¬ F k → (w3.setCell ⟨g, va * 3 + 2, none⟩ (.int .i64 (vb : Int))).heap[k]? = wr.heap[k]? := fun k hk hF => (Below.heap_setCell _ _ _ _ (by show k ≠ g; rintro rfl; exact hF HFG.out)).trans (HX3.out.block k hk)
                  have hb4 : Below base w (w3.setCell ⟨g, va * 3 + 2, none⟩ (.int .i64 (vb : Int))) := (HB.out.trans (HX3.out.mono (by omega))).setCell (p := ⟨g, va * 3 + 2, none⟩) (HNB.out.lt g HFG.out).1 _
                  have hnr4 := Net.bind HN1.out HR1.out HGA.out hx0 hato (b := vb) (by have := HDN.out; cases this with | mk e _ _ => exact (List.getElem?_eq_some_iff.1 e).1) HDN.out
                  have HNB4 := Lib.hid hnb4
                  have HM4 := Lib.hid hm4
                  have HK4 := Lib.hid hk4
                  have HB4 := Lib.hid hb4
                  have HNR4 := Lib.hid hnr4
                  clear hnb4 hm4 hk4 hb4 hnr4
                  go_wp2_with fail
                  go_roundg (gk - 1)
                  case rel =>
                    have hkk := HKK.out
                    refine ⟨setTo n va vb, _, m, l2, _, k', by omega, HRun.out, by simpa [setTo] using hlen, ⟨by have := HLB.out.1; omega, fun i' nd' e' => by
                      obtain ⟨nd0, f1, _, f3⟩ := (Like.setTo n va (vb : Int)).symm.2 i' nd' e'
                      rw [← f3]; exact HLB.out.2 i' nd0 f1⟩, HNR4.out.1, HNR4.out.2, HNB4.out, HM4.out, ?_, HB4.out, fun k hk hF => (HK4.out k (by omega) hF).trans (HKe.out k hk hF)⟩
                    first
                      | exact Sl.mono (fun _ h => h.1) (Sl.move (fun k hk => HK4.out k hk.2 hk.1.1) HT1.out.bound)
                      | exact Sl.mono (fun _ h => h.1) (Sl.move (fun k hk => HK4.out k hk.2 hk.1.1) (HT2.out (by omega)).bound)
                  case measure => have := HKK.out; omega
                ·
                  have e1 := HI.out.symm.trans gb
                  have e2 := HJ.out.symm.trans ga
                  cases e1; cases e2
                  have hcode : bcode ndi.head ndj.head = 2 := by
                    have := HHne'.out ndj ndi hx0 ga gb
                    unfold bcode
                    by_cases c : ndi.head < 0
                    · rw [if_pos ⟨c, hx0⟩, if_neg (by omega)]
                    · rw [if_neg (fun h => c h.1), if_neg c, if_pos hx0]
                  have HCODE := Lib.hid hcode
                  have hato : ndj.to < 0 := by assumption
                  have HGA := Lib.hid ga
                  have HDN := Lib.hid hdn
                  have HFT := Lib.hid hft
                  have HHAS := Lib.hid hhas
                  have HW := Lib.hid hw
                  clear hcode hw ga gb hdn hft hhas
                  go_wp2_with fail
                  refine (bound_calls _ _ _).mono ?_
                  rintro e w' ⟨he, rfl⟩
                  rw [HCODE.out] at he
                  subst he
                  go_wp2_with fail
                  have hb3 : Below wr.heap.size wr (W1.alloc (.cells (madeCells #[.bool false] N.length) 4)) := HX.out.alloc hzW _
                  have hnr3 : NetR (· ≠ W1.heap.size) (W1.alloc (.cells (madeCells #[.bool false] N.length) 4)) gn g cl n := by
                    have h1 := (HNR.out.bound (by omega)).later HX.out
                    exact NetR.mono (fun k h e => by have := h.2; omega) (h1.later ((Below.refl _ _).alloc (Nat.le_refl _) _))
                  have hh := has_calls n s1 HN1.out HR1.out gn g cl W1.heap.size va ndj HGA.out hx0 hato t'.size vb t t' (List.replicate n.length false) (W1.alloc (.cells (madeCells #[.bool false] N.length) 4)) (Nat.le_refl _) HDN.out HFT.out hnr3 (by rw [hlen]; exact made_seen W1 N.length) (by simp) (seenInv_none _ _ _ _ _)
                  rw [hlen] at hh
                  refine hh.mono ?_
                  rintro e w3 ⟨S3, rfl, hG3, -, -, -⟩
                  rw [HHAS.out]
                  have HX3 := Lib.hid (hb3.grown hG3 (by simp; omega) (fun k e => by cases e; exact hzW))
                  clear hb3 hnr3 hh hG3
                  have kt := HCS.out _ _ (HNB.out.cell _ _ HGA.out).2.2
                  obtain ⟨kt1, kt2⟩ := kt
                  have kt3 := cell_kept HX3.out kt1
                  have ktf3 := (World.frozen?_of_block (a := ⟨g, va * 3 + 2, none⟩) (HX3.out.block g hgw)).trans kt2
                  have kc3 := cell_kept HX3.out KC0.out
                  have hz3 := HX3.out.size
                  clear kt1 kt2 kcW kfW
                  have hnb4 := (HNB.out.keep (w1 := w3) (fun k hk => HX3.out.block k (HNB.out.lt k hk).2) hz3).to_ (a := va) (b := vb) (by first | exact hil | exact hjl) hlen.symm
                  have hm4 := HM.out.keep (w1 := w3.setCell ⟨g, va * 3 + 2, none⟩ (.int .i64 (vb : Int))) (fun k hk => (Below.heap_setCell _ _ _ _ (by have h1 := (HM.out.ge k hk).1; have h2 := HFlt.out g HFG.out; show k ≠ g; omega)).trans (HX3.out.block k (HM.out.ge k hk).2)) (by simpa [World.setCell] using hz3)
                  have hk4 : ∀ k, k < wr.heap.size → ¬ F k → (w3.setCell ⟨g, va * 3 + 2, none⟩ (.int .i64 (vb : Int))).heap[k]? = wr.heap[k]? := fun k hk hF => (Below.heap_setCell _ _ _ _ (by show k ≠ g; rintro rfl; exact hF HFG.out)).trans (HX3.out.block k hk)
                  have hb4 : Below base w (w3.setCell ⟨g, va * 3 + 2, none⟩ (.int .i64 (vb : Int))) := (HB.out.trans (HX3.out.mono (by omega))).setCell (p := ⟨g, va * 3 + 2, none⟩) (HNB.out.lt g HFG.out).1 _
                  have hnr4 := Net.bind HN1.out HR1.out HGA.out hx0 hato (b := vb) (by have := HDN.out; cases this with | mk e _ _ => exact (List.getElem?_eq_some_iff.1 e).1) HDN.out
                  have HNB4 := Lib.hid hnb4
                  have HM4 := Lib.hid hm4
                  have HK4 := Lib.hid hk4
                  have HB4 := Lib.hid hb4
                  have HNR4 := Lib.hid hnr4
                  clear hnb4 hm4 hk4 hb4 hnr4
                  go_wp2_with fail
                  go_roundg (gk - 1)
                  case rel =>
                    have hkk := HKK.out
                    refine ⟨setTo n va vb, _, m, l2, _, k', by omega, HRun.out, by simpa [setTo] using hlen, ⟨by have := HLB.out.1; omega, fun i' nd' e' => by
                      obtain ⟨nd0, f1, _, f3⟩ := (Like.setTo n va (vb : Int)).symm.2 i' nd' e'
                      rw [← f3]; exact HLB.out.2 i' nd0 f1⟩, HNR4.out.1, HNR4.out.2, HNB4.out, HM4.out, ?_, HB4.out, fun k hk hF => (HK4.out k (by omega) hF).trans (HKe.out k hk hF)⟩
                    first
                      | exact Sl.mono (fun _ h => h.1) (Sl.move (fun k hk => HK4.out k hk.2 hk.1.1) HT1.out.bound)
                      | exact Sl.mono (fun _ h => h.1) (Sl.move (fun k hk => HK4.out k hk.2 hk.1.1) (HT2.out (by omega)).bound)
                  case measure => have := HKK.out; omega
              | @clash x y gi gj hx0 hy0 hdf hq =>
                have HQ := Lib.hid hq
                clear hq
                have e1 := HI.out.symm.trans gi
                have e2 := HJ.out.symm.trans gj
                cases e1; cases e2
                have hcode : bcode ndi.head ndj.head = 0 := by
                  unfold bcode
                  rw [if_neg (fun h => by omega), if_neg (by omega), if_neg (by omega)]
                have HCODE := Lib.hid hcode
                clear hcode
                obtain ⟨-, ka0, -, A1, c1, ka1, -, hga⟩ := HNR.out.get HI.out
                obtain ⟨-, kb0, -, A2, c2, kb1, -, hgb⟩ := HNR.out.get HJ.out
                have kaW := cell_kept HX.out ka0
                have kbW := cell_kept HX.out kb0
                have kaW1 := cell_kept HX.out ka1
                have kbW1 := cell_kept HX.out kb1
                have HGAI := Lib.hid hga
                have HGBJ := Lib.hid hgb
                clear ka0 kb0 ka1 kb1 hga hgb
                go_wp2_with fail
                refine (bound_calls _ _ _).mono ?_
                rintro e w' ⟨he, rfl⟩
                rw [HCODE.out] at he
                subst he
                go_wp2_with fail
                by_cases hde : ndi.head = ndj.head
                · have hdl : ¬ ndi.args.length = ndj.args.length := by
                    rcases hdf with h | h
                    · exact absurd hde h
                    · exact h
                  have HHE := Lib.hid hde
                  clear hde hdf
                  have hbe : (ndi.head == ndj.head) = true := by simp [HHE.out]
                  have hbn : (ndi.head != ndj.head) = false := by simp [HHE.out]
                  refine wp_mix 36 191 (fun ix _ u => match ix with | 0 => u = .pointer (some ⟨gn, 0, none⟩) | 1 => u = .pointer (some ⟨gn, 0, none⟩) | 2 => u = .pointer (some ⟨gn, 0, none⟩) | 3 => u = .slice (some ⟨g, 0, none⟩) N.length cl | 4 => u = .int .i64 (i : Int) | 5 => u = .pointer (some ⟨g, i * 3, none⟩) | 6 => u = .pointer (some ⟨g, i * 3, none⟩) | 7 => u = .int .i64 ndi.head | 8 => u = .pointer (some ⟨gn, 0, none⟩) | 9 => u = .pointer (some ⟨gn, 0, none⟩) | 10 => u = .pointer (some ⟨gn, 0, none⟩) | 11 => u = .slice (some ⟨g, 0, none⟩) N.length cl | 12 => u = .int .i64 (j : Int) | 13 => u = .pointer (some ⟨g, j * 3, none⟩) | 14 => u = .pointer (some ⟨g, j * 3, none⟩) | 15 => u = .int .i64 ndj.head | 16 => u = .bool false | 17 => u = .bool false | 18 => u = .pointer (some ⟨gn, 0, none⟩) | 19 => u = .pointer (some ⟨gn, 0, none⟩) | 20 => u = .pointer (some ⟨gn, 0, none⟩) | 21 => u = .slice (some ⟨g, 0, none⟩) N.length cl | 22 => u = .int .i64 (i : Int) | 23 => u = .pointer (some ⟨g, i * 3, none⟩) | 24 => u = .pointer (some ⟨g, i * 3 + 1, none⟩) | 25 => u = .slice A1 ndi.args.length c1 | 26 => u = .int .i64 (ndi.args.length : Int) | 27 => u = .pointer (some ⟨gn, 0, none⟩) | 28 => u = .pointer (some ⟨gn, 0, none⟩) | 29 => u = .pointer (some ⟨gn, 0, none⟩) | 30 => u = .slice (some ⟨g, 0, none⟩) N.length cl | 31 => u = .int .i64 (j : Int) | 32 => u = .pointer (some ⟨g, j * 3, none⟩) | 33 => u = .pointer (some ⟨g, j * 3 + 1, none⟩) | 34 => u = .slice A2 ndj.args.length c2 | 35 => u = .int .i64 (ndj.args.length : Int) | _ => True) (by kernel_rfl) rfl (by decide +kernel) (fun ix W W' u _ h => h) ?_ ?_
                  · refine goes_cons rfl ?_ (goes_cons rfl ?_ (goes_cons rfl ?_ (goes_cons rfl ?_ (goes_cons rfl ?_ (goes_cons rfl ?_ (goes_cons rfl ?_ (goes_cons rfl ?_ (goes_cons rfl ?_ (goes_cons rfl ?_ (goes_cons rfl ?_ (goes_cons rfl ?_ (goes_cons rfl ?_ (goes_cons rfl ?_ (goes_cons rfl ?_ (goes_cons rfl ?_ (goes_cons rfl ?_ (goes_cons rfl ?_ (goes_yes rfl (fun W u h => h) ?_ (goes_yes rfl (fun W u h => h) ?_ (goes_yes rfl (fun W u h => h) ?_ (goes_yes rfl (fun W u h => h) ?_ (goes_yes rfl (fun W u h => h) ?_ (goes_yes rfl (fun W u h => h) ?_ (goes_yes rfl (fun W u h => h) ?_ (goes_yes rfl (fun W u h => h) ?_ (goes_yes rfl (fun W u h => h) ?_ (goes_yes rfl (fun W u h => h) ?_ (goes_yes rfl (fun W u h => h) ?_ (goes_yes rfl (fun W u h => h) ?_ (goes_yes rfl (fun W u h => h) ?_ (goes_yes rfl (fun W u h => h) ?_ (goes_yes rfl (fun W u h => h) ?_ (goes_yes rfl (fun W u h => h) ?_ (goes_yes rfl (fun W u h => h) ?_ (goes_yes rfl (fun W u h => h) ?_ (goes_nil))))))))))))))))))))))))))))))))))))
                    · intro ρ W hW hc hg hf hbase hdeps
                      obtain ⟨hk, -⟩ := bcell hW
                      have r0 := hbase 0 (by kernel_rfl)
                      clear hbase hdeps
                      go_simp
                      exact ⟨Below.refl _ _, rfl⟩
                    · intro ρ W hW hc hg hf hbase hdeps
                      obtain ⟨hk, -⟩ := bcell hW
                      have r105 : ρ (.tmp 105) = .pointer (some ⟨gn, 0, none⟩) := hdeps 0 _ 105 (by kernel_rfl) rfl rfl
                      clear hbase hdeps
                      go_simp
                      exact ⟨Below.refl _ _, rfl⟩
                    · intro ρ W hW hc hg hf hbase hdeps
                      obtain ⟨hk, -⟩ := bcell hW
                      have r106 : ρ (.tmp 106) = .pointer (some ⟨gn, 0, none⟩) := hdeps 1 _ 106 (by kernel_rfl) rfl rfl
                      clear hbase hdeps
                      go_simp
                      exact ⟨Below.refl _ _, rfl⟩
                    · intro ρ W hW hc hg hf hbase hdeps
                      obtain ⟨hk, -⟩ := bcell hW
                      have r107 : ρ (.tmp 107) = .pointer (some ⟨gn, 0, none⟩) := hdeps 2 _ 107 (by kernel_rfl) rfl rfl
                      clear hbase hdeps
                      have kkg := cell_kept hW kcW
                      go_simp
                      exact ⟨Below.refl _ _, rfl⟩
                    · intro ρ W hW hc hg hf hbase hdeps
                      obtain ⟨hk, -⟩ := bcell hW
                      have r7 := hbase 7 (by kernel_rfl)
                      clear hbase hdeps
                      go_simp
                      exact ⟨Below.refl _ _, rfl⟩
                    · intro ρ W hW hc hg hf hbase hdeps
                      obtain ⟨hk, -⟩ := bcell hW
                      have r108 : ρ (.tmp 108) = .slice (some ⟨g, 0, none⟩) N.length cl := hdeps 3 _ 108 (by kernel_rfl) rfl rfl
                      have r109 : ρ (.tmp 109) = .int .i64 (i : Int) := hdeps 4 _ 109 (by kernel_rfl) rfl rfl
                      clear hbase hdeps
                      go_simp
                      exact ⟨Below.refl _ _, rfl⟩
                    · intro ρ W hW hc hg hf hbase hdeps
                      obtain ⟨hk, -⟩ := bcell hW
                      have r110 : ρ (.tmp 110) = .pointer (some ⟨g, i * 3, none⟩) := hdeps 5 _ 110 (by kernel_rfl) rfl rfl
                      clear hbase hdeps
                      go_simp
                      exact ⟨Below.refl _ _, rfl⟩
                    · intro ρ W hW hc hg hf hbase hdeps
                      obtain ⟨hk, -⟩ := bcell hW
                      have r111 : ρ (.tmp 111) = .pointer (some ⟨g, i * 3, none⟩) := hdeps 6 _ 111 (by kernel_rfl) rfl rfl
                      clear hbase hdeps
                      go_simp
                      exact ⟨Below.refl _ _, rfl⟩
                    · intro ρ W hW hc hg hf hbase hdeps
                      obtain ⟨hk, -⟩ := bcell hW
                      have r0 := hbase 0 (by kernel_rfl)
                      clear hbase hdeps
                      go_simp
                      exact ⟨Below.refl _ _, rfl⟩
                    · intro ρ W hW hc hg hf hbase hdeps
                      obtain ⟨hk, -⟩ := bcell hW
                      have r113 : ρ (.tmp 113) = .pointer (some ⟨gn, 0, none⟩) := hdeps 8 _ 113 (by kernel_rfl) rfl rfl
                      clear hbase hdeps
                      go_simp
                      exact ⟨Below.refl _ _, rfl⟩
                    · intro ρ W hW hc hg hf hbase hdeps
                      obtain ⟨hk, -⟩ := bcell hW
                      have r114 : ρ (.tmp 114) = .pointer (some ⟨gn, 0, none⟩) := hdeps 9 _ 114 (by kernel_rfl) rfl rfl
                      clear hbase hdeps
                      go_simp
                      exact ⟨Below.refl _ _, rfl⟩
                    · intro ρ W hW hc hg hf hbase hdeps
                      obtain ⟨hk, -⟩ := bcell hW
                      have r115 : ρ (.tmp 115) = .pointer (some ⟨gn, 0, none⟩) := hdeps 10 _ 115 (by kernel_rfl) rfl rfl
                      clear hbase hdeps
                      have kkg := cell_kept hW kcW
                      go_simp
                      exact ⟨Below.refl _ _, rfl⟩
                    · intro ρ W hW hc hg hf hbase hdeps
                      obtain ⟨hk, -⟩ := bcell hW
                      have r8 := hbase 8 (by kernel_rfl)
                      clear hbase hdeps
                      go_simp
                      exact ⟨Below.refl _ _, rfl⟩
                    · intro ρ W hW hc hg hf hbase hdeps
                      obtain ⟨hk, -⟩ := bcell hW
                      have r116 : ρ (.tmp 116) = .slice (some ⟨g, 0, none⟩) N.length cl := hdeps 11 _ 116 (by kernel_rfl) rfl rfl
                      have r117 : ρ (.tmp 117) = .int .i64 (j : Int) := hdeps 12 _ 117 (by kernel_rfl) rfl rfl
                      clear hbase hdeps
                      go_simp
                      exact ⟨Below.refl _ _, rfl⟩
                    · intro ρ W hW hc hg hf hbase hdeps
                      obtain ⟨hk, -⟩ := bcell hW
                      have r118 : ρ (.tmp 118) = .pointer (some ⟨g, j * 3, none⟩) := hdeps 13 _ 118 (by kernel_rfl) rfl rfl
                      clear hbase hdeps
                      go_simp
                      exact ⟨Below.refl _ _, rfl⟩
                    · intro ρ W hW hc hg hf hbase hdeps
                      obtain ⟨hk, -⟩ := bcell hW
                      have r119 : ρ (.tmp 119) = .pointer (some ⟨g, j * 3, none⟩) := hdeps 14 _ 119 (by kernel_rfl) rfl rfl
                      clear hbase hdeps
                      go_simp
                      exact ⟨Below.refl _ _, rfl⟩
                    · intro ρ W hW hc hg hf hbase hdeps
                      obtain ⟨hk, -⟩ := bcell hW
                      have r112 : ρ (.tmp 112) = .int .i64 ndi.head := hdeps 7 _ 112 (by kernel_rfl) rfl rfl
                      have r120 : ρ (.tmp 120) = .int .i64 ndj.head := hdeps 15 _ 120 (by kernel_rfl) rfl rfl
                      clear hbase hdeps
                      go_simp
                      exact ⟨Below.refl _ _, rfl⟩
                    · intro ρ W hW hc hg hf hbase hdeps
                      obtain ⟨hk, -⟩ := bcell hW
                      have r121 : ρ (.tmp 121) = .bool false := hdeps 16 _ 121 (by kernel_rfl) rfl rfl
                      clear hbase hdeps
                      go_simp
                      exact ⟨Below.refl _ _, rfl⟩
                    · intro ρ W hW hc hg hf hbase hdeps
                      obtain ⟨hk, -⟩ := bcell hW
                      have r0 := hbase 0 (by kernel_rfl)
                      clear hbase hdeps
                      go_simp
                      exact ⟨Below.refl _ _, rfl⟩
                    · intro ρ W hW hc hg hf hbase hdeps
                      obtain ⟨hk, -⟩ := bcell hW
                      have r123 : ρ (.tmp 123) = .pointer (some ⟨gn, 0, none⟩) := hdeps 18 _ 123 (by kernel_rfl) rfl rfl
                      clear hbase hdeps
                      go_simp
                      exact ⟨Below.refl _ _, rfl⟩
                    · intro ρ W hW hc hg hf hbase hdeps
                      obtain ⟨hk, -⟩ := bcell hW
                      have r124 : ρ (.tmp 124) = .pointer (some ⟨gn, 0, none⟩) := hdeps 19 _ 124 (by kernel_rfl) rfl rfl
                      clear hbase hdeps
                      go_simp
                      exact ⟨Below.refl _ _, rfl⟩
                    · intro ρ W hW hc hg hf hbase hdeps
                      obtain ⟨hk, -⟩ := bcell hW
                      have r125 : ρ (.tmp 125) = .pointer (some ⟨gn, 0, none⟩) := hdeps 20 _ 125 (by kernel_rfl) rfl rfl
                      clear hbase hdeps
                      have kkg := cell_kept hW kcW
                      go_simp
                      exact ⟨Below.refl _ _, rfl⟩
                    · intro ρ W hW hc hg hf hbase hdeps
                      obtain ⟨hk, -⟩ := bcell hW
                      have r7 := hbase 7 (by kernel_rfl)
                      clear hbase hdeps
                      go_simp
                      exact ⟨Below.refl _ _, rfl⟩
                    · intro ρ W hW hc hg hf hbase hdeps
                      obtain ⟨hk, -⟩ := bcell hW
                      have r126 : ρ (.tmp 126) = .slice (some ⟨g, 0, none⟩) N.length cl := hdeps 21 _ 126 (by kernel_rfl) rfl rfl
                      have r127 : ρ (.tmp 127) = .int .i64 (i : Int) := hdeps 22 _ 127 (by kernel_rfl) rfl rfl
                      clear hbase hdeps
                      go_simp
                      exact ⟨Below.refl _ _, rfl⟩
                    · intro ρ W hW hc hg hf hbase hdeps
                      obtain ⟨hk, -⟩ := bcell hW
                      have r128 : ρ (.tmp 128) = .pointer (some ⟨g, i * 3, none⟩) := hdeps 23 _ 128 (by kernel_rfl) rfl rfl
                      clear hbase hdeps
                      go_simp
                      exact ⟨Below.refl _ _, rfl⟩
                    · intro ρ W hW hc hg hf hbase hdeps
                      obtain ⟨hk, -⟩ := bcell hW
                      have r129 : ρ (.tmp 129) = .pointer (some ⟨g, i * 3 + 1, none⟩) := hdeps 24 _ 129 (by kernel_rfl) rfl rfl
                      clear hbase hdeps
                      go_simp
                      exact ⟨Below.refl _ _, rfl⟩
                    · intro ρ W hW hc hg hf hbase hdeps
                      obtain ⟨hk, -⟩ := bcell hW
                      have r130 : ρ (.tmp 130) = .slice A1 ndi.args.length c1 := hdeps 25 _ 130 (by kernel_rfl) rfl rfl
                      clear hbase hdeps
                      go_simp
                      exact ⟨Below.refl _ _, rfl⟩
                    · intro ρ W hW hc hg hf hbase hdeps
                      obtain ⟨hk, -⟩ := bcell hW
                      have r0 := hbase 0 (by kernel_rfl)
                      clear hbase hdeps
                      go_simp
                      exact ⟨Below.refl _ _, rfl⟩
                    · intro ρ W hW hc hg hf hbase hdeps
                      obtain ⟨hk, -⟩ := bcell hW
                      have r132 : ρ (.tmp 132) = .pointer (some ⟨gn, 0, none⟩) := hdeps 27 _ 132 (by kernel_rfl) rfl rfl
                      clear hbase hdeps
                      go_simp
                      exact ⟨Below.refl _ _, rfl⟩
                    · intro ρ W hW hc hg hf hbase hdeps
                      obtain ⟨hk, -⟩ := bcell hW
                      have r133 : ρ (.tmp 133) = .pointer (some ⟨gn, 0, none⟩) := hdeps 28 _ 133 (by kernel_rfl) rfl rfl
                      clear hbase hdeps
                      go_simp
                      exact ⟨Below.refl _ _, rfl⟩
                    · intro ρ W hW hc hg hf hbase hdeps
                      obtain ⟨hk, -⟩ := bcell hW
                      have r134 : ρ (.tmp 134) = .pointer (some ⟨gn, 0, none⟩) := hdeps 29 _ 134 (by kernel_rfl) rfl rfl
                      clear hbase hdeps
                      have kkg := cell_kept hW kcW
                      go_simp
                      exact ⟨Below.refl _ _, rfl⟩
                    · intro ρ W hW hc hg hf hbase hdeps
                      obtain ⟨hk, -⟩ := bcell hW
                      have r8 := hbase 8 (by kernel_rfl)
                      clear hbase hdeps
                      go_simp
                      exact ⟨Below.refl _ _, rfl⟩
                    · intro ρ W hW hc hg hf hbase hdeps
                      obtain ⟨hk, -⟩ := bcell hW
                      have r135 : ρ (.tmp 135) = .slice (some ⟨g, 0, none⟩) N.length cl := hdeps 30 _ 135 (by kernel_rfl) rfl rfl
                      have r136 : ρ (.tmp 136) = .int .i64 (j : Int) := hdeps 31 _ 136 (by kernel_rfl) rfl rfl
                      clear hbase hdeps
                      go_simp
                      exact ⟨Below.refl _ _, rfl⟩
                    · intro ρ W hW hc hg hf hbase hdeps
                      obtain ⟨hk, -⟩ := bcell hW
                      have r137 : ρ (.tmp 137) = .pointer (some ⟨g, j * 3, none⟩) := hdeps 32 _ 137 (by kernel_rfl) rfl rfl
                      clear hbase hdeps
                      go_simp
                      exact ⟨Below.refl _ _, rfl⟩
                    · intro ρ W hW hc hg hf hbase hdeps
                      obtain ⟨hk, -⟩ := bcell hW
                      have r138 : ρ (.tmp 138) = .pointer (some ⟨g, j * 3 + 1, none⟩) := hdeps 33 _ 138 (by kernel_rfl) rfl rfl
                      clear hbase hdeps
                      go_simp
                      exact ⟨Below.refl _ _, rfl⟩
                    · intro ρ W hW hc hg hf hbase hdeps
                      obtain ⟨hk, -⟩ := bcell hW
                      have r139 : ρ (.tmp 139) = .slice A2 ndj.args.length c2 := hdeps 34 _ 139 (by kernel_rfl) rfl rfl
                      clear hbase hdeps
                      go_simp
                      exact ⟨Below.refl _ _, rfl⟩
                  · intro us W2 hW2 hus
                    have hu0 : us 0 = .pointer (some ⟨gn, 0, none⟩) := hus 0 (by decide)
                    have hu1 : us 1 = .pointer (some ⟨gn, 0, none⟩) := hus 1 (by decide)
                    have hu2 : us 2 = .pointer (some ⟨gn, 0, none⟩) := hus 2 (by decide)
                    have hu3 : us 3 = .slice (some ⟨g, 0, none⟩) N.length cl := hus 3 (by decide)
                    have hu4 : us 4 = .int .i64 (i : Int) := hus 4 (by decide)
                    have hu5 : us 5 = .pointer (some ⟨g, i * 3, none⟩) := hus 5 (by decide)
                    have hu6 : us 6 = .pointer (some ⟨g, i * 3, none⟩) := hus 6 (by decide)
                    have hu7 : us 7 = .int .i64 ndi.head := hus 7 (by decide)
                    have hu8 : us 8 = .pointer (some ⟨gn, 0, none⟩) := hus 8 (by decide)
                    have hu9 : us 9 = .pointer (some ⟨gn, 0, none⟩) := hus 9 (by decide)
                    have hu10 : us 10 = .pointer (some ⟨gn, 0, none⟩) := hus 10 (by decide)
                    have hu11 : us 11 = .slice (some ⟨g, 0, none⟩) N.length cl := hus 11 (by decide)
                    have hu12 : us 12 = .int .i64 (j : Int) := hus 12 (by decide)
                    have hu13 : us 13 = .pointer (some ⟨g, j * 3, none⟩) := hus 13 (by decide)
                    have hu14 : us 14 = .pointer (some ⟨g, j * 3, none⟩) := hus 14 (by decide)
                    have hu15 : us 15 = .int .i64 ndj.head := hus 15 (by decide)
                    have hu16 : us 16 = .bool false := hus 16 (by decide)
                    have hu17 : us 17 = .bool false := hus 17 (by decide)
                    have hu18 : us 18 = .pointer (some ⟨gn, 0, none⟩) := hus 18 (by decide)
                    have hu19 : us 19 = .pointer (some ⟨gn, 0, none⟩) := hus 19 (by decide)
                    have hu20 : us 20 = .pointer (some ⟨gn, 0, none⟩) := hus 20 (by decide)
                    have hu21 : us 21 = .slice (some ⟨g, 0, none⟩) N.length cl := hus 21 (by decide)
                    have hu22 : us 22 = .int .i64 (i : Int) := hus 22 (by decide)
                    have hu23 : us 23 = .pointer (some ⟨g, i * 3, none⟩) := hus 23 (by decide)
                    have hu24 : us 24 = .pointer (some ⟨g, i * 3 + 1, none⟩) := hus 24 (by decide)
                    have hu25 : us 25 = .slice A1 ndi.args.length c1 := hus 25 (by decide)
                    have hu26 : us 26 = .int .i64 (ndi.args.length : Int) := hus 26 (by decide)
                    have hu27 : us 27 = .pointer (some ⟨gn, 0, none⟩) := hus 27 (by decide)
                    have hu28 : us 28 = .pointer (some ⟨gn, 0, none⟩) := hus 28 (by decide)
                    have hu29 : us 29 = .pointer (some ⟨gn, 0, none⟩) := hus 29 (by decide)
                    have hu30 : us 30 = .slice (some ⟨g, 0, none⟩) N.length cl := hus 30 (by decide)
                    have hu31 : us 31 = .int .i64 (j : Int) := hus 31 (by decide)
                    have hu32 : us 32 = .pointer (some ⟨g, j * 3, none⟩) := hus 32 (by decide)
                    have hu33 : us 33 = .pointer (some ⟨g, j * 3 + 1, none⟩) := hus 33 (by decide)
                    have hu34 : us 34 = .slice A2 ndj.args.length c2 := hus 34 (by decide)
                    have hu35 : us 35 = .int .i64 (ndj.args.length : Int) := hus 35 (by decide)
                    clear hus
                    simp only [List.drop_succ_cons, List.drop_zero, List.take_succ_cons, List.take_zero, fill, Act.put, List.setIfInBounds_toArray, List.set_cons_succ, List.set_cons_zero, hu0, hu1, hu2, hu3, hu4, hu5, hu6, hu7, hu8, hu9, hu10, hu11, hu12, hu13, hu14, hu15, hu16, hu17, hu18, hu19, hu20, hu21, hu22, hu23, hu24, hu25, hu26, hu27, hu28, hu29, hu30, hu31, hu32, hu33, hu34, hu35]
                    clear hu0 hu1 hu2 hu3 hu4 hu5 hu6 hu7 hu8 hu9 hu10 hu11 hu12 hu13 hu14 hu15 hu16 hu17 hu18 hu19 hu20 hu21 hu22 hu23 hu24 hu25 hu26 hu27 hu28 hu29 hu30 hu31 hu32 hu33 hu34 hu35
                    have HX2 := Lib.hid (HX.out.trans (hW2.mono hzW))
                    clear hW2 kcW kfW
                    have hdl' : ¬ (ndi.args.length : Int) = (ndj.args.length : Int) := by omega
                    go_wp2
                    go_ret
                    rw [HQ.out]
                    exact ⟨rfl, fun _ _ e => (by cases e), fun k hk hF => (HX2.out.block k (by omega)).trans (HKe.out k (by omega) hF), HB.out.trans (HX2.out.mono (by omega))⟩
                · have hbe : (ndi.head == ndj.head) = false := by simp [hde]
                  have hbn : (ndi.head != ndj.head) = true := by simp [hde]
                  refine wp_mix 36 191 (fun ix _ u => match ix with | 0 => u = .pointer (some ⟨gn, 0, none⟩) | 1 => u = .pointer (some ⟨gn, 0, none⟩) | 2 => u = .pointer (some ⟨gn, 0, none⟩) | 3 => u = .slice (some ⟨g, 0, none⟩) N.length cl | 4 => u = .int .i64 (i : Int) | 5 => u = .pointer (some ⟨g, i * 3, none⟩) | 6 => u = .pointer (some ⟨g, i * 3, none⟩) | 7 => u = .int .i64 ndi.head | 8 => u = .pointer (some ⟨gn, 0, none⟩) | 9 => u = .pointer (some ⟨gn, 0, none⟩) | 10 => u = .pointer (some ⟨gn, 0, none⟩) | 11 => u = .slice (some ⟨g, 0, none⟩) N.length cl | 12 => u = .int .i64 (j : Int) | 13 => u = .pointer (some ⟨g, j * 3, none⟩) | 14 => u = .pointer (some ⟨g, j * 3, none⟩) | 15 => u = .int .i64 ndj.head | 16 => u = .bool true | 17 => u = .bool true | 18 => u = undef | 19 => u = undef | 20 => u = undef | 21 => u = undef | 22 => u = undef | 23 => u = undef | 24 => u = undef | 25 => u = undef | 26 => u = undef | 27 => u = undef | 28 => u = undef | 29 => u = undef | 30 => u = undef | 31 => u = undef | 32 => u = undef | 33 => u = undef | 34 => u = undef | 35 => u = undef | _ => True) (by kernel_rfl) rfl (by decide +kernel) (fun ix W W' u _ h => h) ?_ ?_
                  · refine goes_cons rfl ?_ (goes_cons rfl ?_ (goes_cons rfl ?_ (goes_cons rfl ?_ (goes_cons rfl ?_ (goes_cons rfl ?_ (goes_cons rfl ?_ (goes_cons rfl ?_ (goes_cons rfl ?_ (goes_cons rfl ?_ (goes_cons rfl ?_ (goes_cons rfl ?_ (goes_cons rfl ?_ (goes_cons rfl ?_ (goes_cons rfl ?_ (goes_cons rfl ?_ (goes_cons rfl ?_ (goes_cons rfl ?_ (goes_no rfl (fun W u h => h) (fun _ => rfl) (goes_no rfl (fun W u h => h) (fun _ => rfl) (goes_no rfl (fun W u h => h) (fun _ => rfl) (goes_no rfl (fun W u h => h) (fun _ => rfl) (goes_no rfl (fun W u h => h) (fun _ => rfl) (goes_no rfl (fun W u h => h) (fun _ => rfl) (goes_no rfl (fun W u h => h) (fun _ => rfl) (goes_no rfl (fun W u h => h) (fun _ => rfl) (goes_no rfl (fun W u h => h) (fun _ => rfl) (goes_no rfl (fun W u h => h) (fun _ => rfl) (goes_no rfl (fun W u h => h) (fun _ => rfl) (goes_no rfl (fun W u h => h) (fun _ => rfl) (goes_no rfl (fun W u h => h) (fun _ => rfl) (goes_no rfl (fun W u h => h) (fun _ => rfl) (goes_no rfl (fun W u h => h) (fun _ => rfl) (goes_no rfl (fun W u h => h) (fun _ => rfl) (goes_no rfl (fun W u h => h) (fun _ => rfl) (goes_no rfl (fun W u h => h) (fun _ => rfl) (goes_nil))))))))))))))))))))))))))))))))))))
                    · intro ρ W hW hc hg hf hbase hdeps
                      obtain ⟨hk, -⟩ := bcell hW
                      have r0 := hbase 0 (by kernel_rfl)
                      clear hbase hdeps
                      go_simp
                      exact ⟨Below.refl _ _, rfl⟩
                    · intro ρ W hW hc hg hf hbase hdeps
                      obtain ⟨hk, -⟩ := bcell hW
                      have r105 : ρ (.tmp 105) = .pointer (some ⟨gn, 0, none⟩) := hdeps 0 _ 105 (by kernel_rfl) rfl rfl
                      clear hbase hdeps
                      go_simp
                      exact ⟨Below.refl _ _, rfl⟩
                    · intro ρ W hW hc hg hf hbase hdeps
                      obtain ⟨hk, -⟩ := bcell hW
                      have r106 : ρ (.tmp 106) = .pointer (some ⟨gn, 0, none⟩) := hdeps 1 _ 106 (by kernel_rfl) rfl rfl
                      clear hbase hdeps
                      go_simp
                      exact ⟨Below.refl _ _, rfl⟩
                    · intro ρ W hW hc hg hf hbase hdeps
                      obtain ⟨hk, -⟩ := bcell hW
                      have r107 : ρ (.tmp 107) = .pointer (some ⟨gn, 0, none⟩) := hdeps 2 _ 107 (by kernel_rfl) rfl rfl
                      clear hbase hdeps
                      have kkg := cell_kept hW kcW
                      go_simp
                      exact ⟨Below.refl _ _, rfl⟩
                    · intro ρ W hW hc hg hf hbase hdeps
                      obtain ⟨hk, -⟩ := bcell hW
                      have r7 := hbase 7 (by kernel_rfl)
                      clear hbase hdeps
                      go_simp
                      exact ⟨Below.refl _ _, rfl⟩
                    · intro ρ W hW hc hg hf hbase hdeps
                      obtain ⟨hk, -⟩ := bcell hW
                      have r108 : ρ (.tmp 108) = .slice (some ⟨g, 0, none⟩) N.length cl := hdeps 3 _ 108 (by kernel_rfl) rfl rfl
                      have r109 : ρ (.tmp 109) = .int .i64 (i : Int) := hdeps 4 _ 109 (by kernel_rfl) rfl rfl
                      clear hbase hdeps
                      go_simp
                      exact ⟨Below.refl _ _, rfl⟩
                    · intro ρ W hW hc hg hf hbase hdeps
                      obtain ⟨hk, -⟩ := bcell hW
                      have r110 : ρ (.tmp 110) = .pointer (some ⟨g, i * 3, none⟩) := hdeps 5 _ 110 (by kernel_rfl) rfl rfl
                      clear hbase hdeps
                      go_simp
                      exact ⟨Below.refl _ _, rfl⟩
                    · intro ρ W hW hc hg hf hbase hdeps
                      obtain ⟨hk, -⟩ := bcell hW
                      have r111 : ρ (.tmp 111) = .pointer (some ⟨g, i * 3, none⟩) := hdeps 6 _ 111 (by kernel_rfl) rfl rfl
                      clear hbase hdeps
                      go_simp
                      exact ⟨Below.refl _ _, rfl⟩
                    · intro ρ W hW hc hg hf hbase hdeps
                      obtain ⟨hk, -⟩ := bcell hW
                      have r0 := hbase 0 (by kernel_rfl)
                      clear hbase hdeps
                      go_simp
                      exact ⟨Below.refl _ _, rfl⟩
                    · intro ρ W hW hc hg hf hbase hdeps
                      obtain ⟨hk, -⟩ := bcell hW
                      have r113 : ρ (.tmp 113) = .pointer (some ⟨gn, 0, none⟩) := hdeps 8 _ 113 (by kernel_rfl) rfl rfl
                      clear hbase hdeps
                      go_simp
                      exact ⟨Below.refl _ _, rfl⟩
                    · intro ρ W hW hc hg hf hbase hdeps
                      obtain ⟨hk, -⟩ := bcell hW
                      have r114 : ρ (.tmp 114) = .pointer (some ⟨gn, 0, none⟩) := hdeps 9 _ 114 (by kernel_rfl) rfl rfl
                      clear hbase hdeps
                      go_simp
                      exact ⟨Below.refl _ _, rfl⟩
                    · intro ρ W hW hc hg hf hbase hdeps
                      obtain ⟨hk, -⟩ := bcell hW
                      have r115 : ρ (.tmp 115) = .pointer (some ⟨gn, 0, none⟩) := hdeps 10 _ 115 (by kernel_rfl) rfl rfl
                      clear hbase hdeps
                      have kkg := cell_kept hW kcW
                      go_simp
                      exact ⟨Below.refl _ _, rfl⟩
                    · intro ρ W hW hc hg hf hbase hdeps
                      obtain ⟨hk, -⟩ := bcell hW
                      have r8 := hbase 8 (by kernel_rfl)
                      clear hbase hdeps
                      go_simp
                      exact ⟨Below.refl _ _, rfl⟩
                    · intro ρ W hW hc hg hf hbase hdeps
                      obtain ⟨hk, -⟩ := bcell hW
                      have r116 : ρ (.tmp 116) = .slice (some ⟨g, 0, none⟩) N.length cl := hdeps 11 _ 116 (by kernel_rfl) rfl rfl
                      have r117 : ρ (.tmp 117) = .int .i64 (j : Int) := hdeps 12 _ 117 (by kernel_rfl) rfl rfl
                      clear hbase hdeps
                      go_simp
                      exact ⟨Below.refl _ _, rfl⟩
                    · intro ρ W hW hc hg hf hbase hdeps
                      obtain ⟨hk, -⟩ := bcell hW
                      have r118 : ρ (.tmp 118) = .pointer (some ⟨g, j * 3, none⟩) := hdeps 13 _ 118 (by kernel_rfl) rfl rfl
                      clear hbase hdeps
                      go_simp
                      exact ⟨Below.refl _ _, rfl⟩
                    · intro ρ W hW hc hg hf hbase hdeps
                      obtain ⟨hk, -⟩ := bcell hW
                      have r119 : ρ (.tmp 119) = .pointer (some ⟨g, j * 3, none⟩) := hdeps 14 _ 119 (by kernel_rfl) rfl rfl
                      clear hbase hdeps
                      go_simp
                      exact ⟨Below.refl _ _, rfl⟩
                    · intro ρ W hW hc hg hf hbase hdeps
                      obtain ⟨hk, -⟩ := bcell hW
                      have r112 : ρ (.tmp 112) = .int .i64 ndi.head := hdeps 7 _ 112 (by kernel_rfl) rfl rfl
                      have r120 : ρ (.tmp 120) = .int .i64 ndj.head := hdeps 15 _ 120 (by kernel_rfl) rfl rfl
                      clear hbase hdeps
                      go_simp
                      exact ⟨Below.refl _ _, rfl⟩
                    · intro ρ W hW hc hg hf hbase hdeps
                      obtain ⟨hk, -⟩ := bcell hW
                      have r121 : ρ (.tmp 121) = .bool true := hdeps 16 _ 121 (by kernel_rfl) rfl rfl
                      clear hbase hdeps
                      go_simp
                      exact ⟨Below.refl _ _, rfl⟩
                  · intro us W2 hW2 hus
                    have hu0 : us 0 = .pointer (some ⟨gn, 0, none⟩) := hus 0 (by decide)
                    have hu1 : us 1 = .pointer (some ⟨gn, 0, none⟩) := hus 1 (by decide)
                    have hu2 : us 2 = .pointer (some ⟨gn, 0, none⟩) := hus 2 (by decide)
                    have hu3 : us 3 = .slice (some ⟨g, 0, none⟩) N.length cl := hus 3 (by decide)
                    have hu4 : us 4 = .int .i64 (i : Int) := hus 4 (by decide)
                    have hu5 : us 5 = .pointer (some ⟨g, i * 3, none⟩) := hus 5 (by decide)
                    have hu6 : us 6 = .pointer (some ⟨g, i * 3, none⟩) := hus 6 (by decide)
                    have hu7 : us 7 = .int .i64 ndi.head := hus 7 (by decide)
                    have hu8 : us 8 = .pointer (some ⟨gn, 0, none⟩) := hus 8 (by decide)
                    have hu9 : us 9 = .pointer (some ⟨gn, 0, none⟩) := hus 9 (by decide)
                    have hu10 : us 10 = .pointer (some ⟨gn, 0, none⟩) := hus 10 (by decide)
                    have hu11 : us 11 = .slice (some ⟨g, 0, none⟩) N.length cl := hus 11 (by decide)
                    have hu12 : us 12 = .int .i64 (j : Int) := hus 12 (by decide)
                    have hu13 : us 13 = .pointer (some ⟨g, j * 3, none⟩) := hus 13 (by decide)
                    have hu14 : us 14 = .pointer (some ⟨g, j * 3, none⟩) := hus 14 (by decide)
                    have hu15 : us 15 = .int .i64 ndj.head := hus 15 (by decide)
                    have hu16 : us 16 = .bool true := hus 16 (by decide)
                    have hu17 : us 17 = .bool true := hus 17 (by decide)
                    have hu18 : us 18 = undef := hus 18 (by decide)
                    have hu19 : us 19 = undef := hus 19 (by decide)
                    have hu20 : us 20 = undef := hus 20 (by decide)
                    have hu21 : us 21 = undef := hus 21 (by decide)
                    have hu22 : us 22 = undef := hus 22 (by decide)
                    have hu23 : us 23 = undef := hus 23 (by decide)
                    have hu24 : us 24 = undef := hus 24 (by decide)
                    have hu25 : us 25 = undef := hus 25 (by decide)
                    have hu26 : us 26 = undef := hus 26 (by decide)
                    have hu27 : us 27 = undef := hus 27 (by decide)
                    have hu28 : us 28 = undef := hus 28 (by decide)
                    have hu29 : us 29 = undef := hus 29 (by decide)
                    have hu30 : us 30 = undef := hus 30 (by decide)
                    have hu31 : us 31 = undef := hus 31 (by decide)
                    have hu32 : us 32 = undef := hus 32 (by decide)
                    have hu33 : us 33 = undef := hus 33 (by decide)
                    have hu34 : us 34 = undef := hus 34 (by decide)
                    have hu35 : us 35 = undef := hus 35 (by decide)
                    clear hus
                    simp only [List.drop_succ_cons, List.drop_zero, List.take_succ_cons, List.take_zero, fill, Act.put, List.setIfInBounds_toArray, List.set_cons_succ, List.set_cons_zero, hu0, hu1, hu2, hu3, hu4, hu5, hu6, hu7, hu8, hu9, hu10, hu11, hu12, hu13, hu14, hu15, hu16, hu17, hu18, hu19, hu20, hu21, hu22, hu23, hu24, hu25, hu26, hu27, hu28, hu29, hu30, hu31, hu32, hu33, hu34, hu35]
                    clear hu0 hu1 hu2 hu3 hu4 hu5 hu6 hu7 hu8 hu9 hu10 hu11 hu12 hu13 hu14 hu15 hu16 hu17 hu18 hu19 hu20 hu21 hu22 hu23 hu24 hu25 hu26 hu27 hu28 hu29 hu30 hu31 hu32 hu33 hu34 hu35
                    have HX2 := Lib.hid (HX.out.trans (hW2.mono hzW))
                    clear hW2 kcW kfW
                    go_wp2
                    go_ret
                    rw [HQ.out]
                    exact ⟨rfl, fun _ _ e => (by cases e), fun k hk hF => (HX2.out.block k (by omega)).trans (HKe.out k (by omega) hF), HB.out.trans (HX2.out.mono (by omega))⟩
              | @node k' x y gi gj hx0 hy0 hhe hle hrun' =>
                have HRun := Lib.hid hrun'
                clear hrun'
                have HLE := Lib.hid hle
                have HHE := Lib.hid hhe
                clear hle hhe
                have e1 := HI.out.symm.trans gi
                have e2 := HJ.out.symm.trans gj
                cases e1; cases e2
                have hcode : bcode ndi.head ndj.head = 0 := by
                  unfold bcode
                  rw [if_neg (fun h => by omega), if_neg (by omega), if_neg (by omega)]
                have HCODE := Lib.hid hcode
                clear hcode
                obtain ⟨-, ka0, -, A1, c1, ka1, -, hga⟩ := HNR.out.get HI.out
                obtain ⟨-, kb0, -, A2, c2, kb1, -, hgb⟩ := HNR.out.get HJ.out
                have kaW := cell_kept HX.out ka0
                have kbW := cell_kept HX.out kb0
                have kaW1 := cell_kept HX.out ka1
                have kbW1 := cell_kept HX.out kb1
                have HGAI := Lib.hid hga
                have HGBJ := Lib.hid hgb
                clear ka0 kb0 ka1 kb1 hga hgb
                go_wp2_with fail
                refine (bound_calls _ _ _).mono ?_
                rintro e w' ⟨he, rfl⟩
                rw [HCODE.out] at he
                subst he
                go_wp2_with fail
                rw [← HLE.out] at kbW1
                have hbe : (ndi.head == ndj.head) = true := by simp [HHE.out]
                have hbn : (ndi.head != ndj.head) = false := by simp [HHE.out]
                refine wp_mix 36 191 (fun ix _ u => match ix with | 0 => u = .pointer (some ⟨gn, 0, none⟩) | 1 => u = .pointer (some ⟨gn, 0, none⟩) | 2 => u = .pointer (some ⟨gn, 0, none⟩) | 3 => u = .slice (some ⟨g, 0, none⟩) N.length cl | 4 => u = .int .i64 (i : Int) | 5 => u = .pointer (some ⟨g, i * 3, none⟩) | 6 => u = .pointer (some ⟨g, i * 3, none⟩) | 7 => u = .int .i64 ndi.head | 8 => u = .pointer (some ⟨gn, 0, none⟩) | 9 => u = .pointer (some ⟨gn, 0, none⟩) | 10 => u = .pointer (some ⟨gn, 0, none⟩) | 11 => u = .slice (some ⟨g, 0, none⟩) N.length cl | 12 => u = .int .i64 (j : Int) | 13 => u = .pointer (some ⟨g, j * 3, none⟩) | 14 => u = .pointer (some ⟨g, j * 3, none⟩) | 15 => u = .int .i64 ndj.head | 16 => u = .bool false | 17 => u = .bool false | 18 => u = .pointer (some ⟨gn, 0, none⟩) | 19 => u = .pointer (some ⟨gn, 0, none⟩) | 20 => u = .pointer (some ⟨gn, 0, none⟩) | 21 => u = .slice (some ⟨g, 0, none⟩) N.length cl | 22 => u = .int .i64 (i : Int) | 23 => u = .pointer (some ⟨g, i * 3, none⟩) | 24 => u = .pointer (some ⟨g, i * 3 + 1, none⟩) | 25 => u = .slice A1 ndi.args.length c1 | 26 => u = .int .i64 (ndi.args.length : Int) | 27 => u = .pointer (some ⟨gn, 0, none⟩) | 28 => u = .pointer (some ⟨gn, 0, none⟩) | 29 => u = .pointer (some ⟨gn, 0, none⟩) | 30 => u = .slice (some ⟨g, 0, none⟩) N.length cl | 31 => u = .int .i64 (j : Int) | 32 => u = .pointer (some ⟨g, j * 3, none⟩) | 33 => u = .pointer (some ⟨g, j * 3 + 1, none⟩) | 34 => u = .slice A2 ndi.args.length c2 | 35 => u = .int .i64 (ndi.args.length : Int) | _ => True) (by kernel_rfl) rfl (by decide +kernel) (fun ix W W' u _ h => h) ?_ ?_
                · refine goes_cons rfl ?_ (goes_cons rfl ?_ (goes_cons rfl ?_ (goes_cons rfl ?_ (goes_cons rfl ?_ (goes_cons rfl ?_ (goes_cons rfl ?_ (goes_cons rfl ?_ (goes_cons rfl ?_ (goes_cons rfl ?_ (goes_cons rfl ?_ (goes_cons rfl ?_ (goes_cons rfl ?_ (goes_cons rfl ?_ (goes_cons rfl ?_ (goes_cons rfl ?_ (goes_cons rfl ?_ (goes_cons rfl ?_ (goes_yes rfl (fun W u h => h) ?_ (goes_yes rfl (fun W u h => h) ?_ (goes_yes rfl (fun W u h => h) ?_ (goes_yes rfl (fun W u h => h) ?_ (goes_yes rfl (fun W u h => h) ?_ (goes_yes rfl (fun W u h => h) ?_ (goes_yes rfl (fun W u h => h) ?_ (goes_yes rfl (fun W u h => h) ?_ (goes_yes rfl (fun W u h => h) ?_ (goes_yes rfl (fun W u h => h) ?_ (goes_yes rfl (fun W u h => h) ?_ (goes_yes rfl (fun W u h => h) ?_ (goes_yes rfl (fun W u h => h) ?_ (goes_yes rfl (fun W u h => h) ?_ (goes_yes rfl (fun W u h => h) ?_ (goes_yes rfl (fun W u h => h) ?_ (goes_yes rfl (fun W u h => h) ?_ (goes_yes rfl (fun W u h => h) ?_ (goes_nil))))))))))))))))))))))))))))))))))))
                  · intro ρ W hW hc hg hf hbase hdeps
                    obtain ⟨hk, -⟩ := bcell hW
                    have r0 := hbase 0 (by kernel_rfl)
                    clear hbase hdeps
                    go_simp
                    exact ⟨Below.refl _ _, rfl⟩
                  · intro ρ W hW hc hg hf hbase hdeps
                    obtain ⟨hk, -⟩ := bcell hW
                    have r105 : ρ (.tmp 105) = .pointer (some ⟨gn, 0, none⟩) := hdeps 0 _ 105 (by kernel_rfl) rfl rfl
                    clear hbase hdeps
                    go_simp
                    exact ⟨Below.refl _ _, rfl⟩
                  · intro ρ W hW hc hg hf hbase hdeps
                    obtain ⟨hk, -⟩ := bcell hW
                    have r106 : ρ (.tmp 106) = .pointer (some ⟨gn, 0, none⟩) := hdeps 1 _ 106 (by kernel_rfl) rfl rfl
                    clear hbase hdeps
                    go_simp
                    exact ⟨Below.refl _ _, rfl⟩
                  · intro ρ W hW hc hg hf hbase hdeps
                    obtain ⟨hk, -⟩ := bcell hW
                    have r107 : ρ (.tmp 107) = .pointer (some ⟨gn, 0, none⟩) := hdeps 2 _ 107 (by kernel_rfl) rfl rfl
                    clear hbase hdeps
                    have kkg := cell_kept hW kcW
                    go_simp
                    exact ⟨Below.refl _ _, rfl⟩
                  · intro ρ W hW hc hg hf hbase hdeps
                    obtain ⟨hk, -⟩ := bcell hW
                    have r7 := hbase 7 (by kernel_rfl)
                    clear hbase hdeps
                    go_simp
                    exact ⟨Below.refl _ _, rfl⟩
                  · intro ρ W hW hc hg hf hbase hdeps
                    obtain ⟨hk, -⟩ := bcell hW
                    have r108 : ρ (.tmp 108) = .slice (some ⟨g, 0, none⟩) N.length cl := hdeps 3 _ 108 (by kernel_rfl) rfl rfl
                    have r109 : ρ (.tmp 109) = .int .i64 (i : Int) := hdeps 4 _ 109 (by kernel_rfl) rfl rfl
                    clear hbase hdeps
                    go_simp
                    exact ⟨Below.refl _ _, rfl⟩
                  · intro ρ W hW hc hg hf hbase hdeps
                    obtain ⟨hk, -⟩ := bcell hW
                    have r110 : ρ (.tmp 110) = .pointer (some ⟨g, i * 3, none⟩) := hdeps 5 _ 110 (by kernel_rfl) rfl rfl
                    clear hbase hdeps
                    go_simp
                    exact ⟨Below.refl _ _, rfl⟩
                  · intro ρ W hW hc hg hf hbase hdeps
                    obtain ⟨hk, -⟩ := bcell hW
                    have r111 : ρ (.tmp 111) = .pointer (some ⟨g, i * 3, none⟩) := hdeps 6 _ 111 (by kernel_rfl) rfl rfl
                    clear hbase hdeps
                    go_simp
                    exact ⟨Below.refl _ _, rfl⟩
                  · intro ρ W hW hc hg hf hbase hdeps
                    obtain ⟨hk, -⟩ := bcell hW
                    have r0 := hbase 0 (by kernel_rfl)
                    clear hbase hdeps
                    go_simp
                    exact ⟨Below.refl _ _, rfl⟩
                  · intro ρ W hW hc hg hf hbase hdeps
                    obtain ⟨hk, -⟩ := bcell hW
                    have r113 : ρ (.tmp 113) = .pointer (some ⟨gn, 0, none⟩) := hdeps 8 _ 113 (by kernel_rfl) rfl rfl
                    clear hbase hdeps
                    go_simp
                    exact ⟨Below.refl _ _, rfl⟩
                  · intro ρ W hW hc hg hf hbase hdeps
                    obtain ⟨hk, -⟩ := bcell hW
                    have r114 : ρ (.tmp 114) = .pointer (some ⟨gn, 0, none⟩) := hdeps 9 _ 114 (by kernel_rfl) rfl rfl
                    clear hbase hdeps
                    go_simp
                    exact ⟨Below.refl _ _, rfl⟩
                  · intro ρ W hW hc hg hf hbase hdeps
                    obtain ⟨hk, -⟩ := bcell hW
                    have r115 : ρ (.tmp 115) = .pointer (some ⟨gn, 0, none⟩) := hdeps 10 _ 115 (by kernel_rfl) rfl rfl
                    clear hbase hdeps
                    have kkg := cell_kept hW kcW
                    go_simp
                    exact ⟨Below.refl _ _, rfl⟩
                  · intro ρ W hW hc hg hf hbase hdeps
                    obtain ⟨hk, -⟩ := bcell hW
                    have r8 := hbase 8 (by kernel_rfl)
                    clear hbase hdeps
                    go_simp
                    exact ⟨Below.refl _ _, rfl⟩
                  · intro ρ W hW hc hg hf hbase hdeps
                    obtain ⟨hk, -⟩ := bcell hW
                    have r116 : ρ (.tmp 116) = .slice (some ⟨g, 0, none⟩) N.length cl := hdeps 11 _ 116 (by kernel_rfl) rfl rfl
                    have r117 : ρ (.tmp 117) = .int .i64 (j : Int) := hdeps 12 _ 117 (by kernel_rfl) rfl rfl
                    clear hbase hdeps
                    go_simp
                    exact ⟨Below.refl _ _, rfl⟩
                  · intro ρ W hW hc hg hf hbase hdeps
                    obtain ⟨hk, -⟩ := bcell hW
                    have r118 : ρ (.tmp 118) = .pointer (some ⟨g, j * 3, none⟩) := hdeps 13 _ 118 (by kernel_rfl) rfl rfl
                    clear hbase hdeps
                    go_simp
                    exact ⟨Below.refl _ _, rfl⟩
                  · intro ρ W hW hc hg hf hbase hdeps
                    obtain ⟨hk, -⟩ := bcell hW
                    have r119 : ρ (.tmp 119) = .pointer (some ⟨g, j * 3, none⟩) := hdeps 14 _ 119 (by kernel_rfl) rfl rfl
                    clear hbase hdeps
                    go_simp
                    exact ⟨Below.refl _ _, rfl⟩
                  · intro ρ W hW hc hg hf hbase hdeps
                    obtain ⟨hk, -⟩ := bcell hW
                    have r112 : ρ (.tmp 112) = .int .i64 ndi.head := hdeps 7 _ 112 (by kernel_rfl) rfl rfl
                    have r120 : ρ (.tmp 120) = .int .i64 ndj.head := hdeps 15 _ 120 (by kernel_rfl) rfl rfl
                    clear hbase hdeps
                    go_simp
                    exact ⟨Below.refl _ _, rfl⟩
                  · intro ρ W hW hc hg hf hbase hdeps
                    obtain ⟨hk, -⟩ := bcell hW
                    have r121 : ρ (.tmp 121) = .bool false := hdeps 16 _ 121 (by kernel_rfl) rfl rfl
                    clear hbase hdeps
                    go_simp
                    exact ⟨Below.refl _ _, rfl⟩
                  · intro ρ W hW hc hg hf hbase hdeps
                    obtain ⟨hk, -⟩ := bcell hW
                    have r0 := hbase 0 (by kernel_rfl)
                    clear hbase hdeps
                    go_simp
                    exact ⟨Below.refl _ _, rfl⟩
                  · intro ρ W hW hc hg hf hbase hdeps
                    obtain ⟨hk, -⟩ := bcell hW
                    have r123 : ρ (.tmp 123) = .pointer (some ⟨gn, 0, none⟩) := hdeps 18 _ 123 (by kernel_rfl) rfl rfl
                    clear hbase hdeps
                    go_simp
                    exact ⟨Below.refl _ _, rfl⟩
                  · intro ρ W hW hc hg hf hbase hdeps
                    obtain ⟨hk, -⟩ := bcell hW
                    have r124 : ρ (.tmp 124) = .pointer (some ⟨gn, 0, none⟩) := hdeps 19 _ 124 (by kernel_rfl) rfl rfl
                    clear hbase hdeps
                    go_simp
                    exact ⟨Below.refl _ _, rfl⟩
                  · intro ρ W hW hc hg hf hbase hdeps
                    obtain ⟨hk, -⟩ := bcell hW
                    have r125 : ρ (.tmp 125) = .pointer (some ⟨gn, 0, none⟩) := hdeps 20 _ 125 (by kernel_rfl) rfl rfl
                    clear hbase hdeps
                    have kkg := cell_kept hW kcW
                    go_simp
                    exact ⟨Below.refl _ _, rfl⟩
                  · intro ρ W hW hc hg hf hbase hdeps
                    obtain ⟨hk, -⟩ := bcell hW
                    have r7 := hbase 7 (by kernel_rfl)
                    clear hbase hdeps
                    go_simp
                    exact ⟨Below.refl _ _, rfl⟩
                  · intro ρ W hW hc hg hf hbase hdeps
                    obtain ⟨hk, -⟩ := bcell hW
                    have r126 : ρ (.tmp 126) = .slice (some ⟨g, 0, none⟩) N.length cl := hdeps 21 _ 126 (by kernel_rfl) rfl rfl
                    have r127 : ρ (.tmp 127) = .int .i64 (i : Int) := hdeps 22 _ 127 (by kernel_rfl) rfl rfl
                    clear hbase hdeps
                    go_simp
                    exact ⟨Below.refl _ _, rfl⟩
                  · intro ρ W hW hc hg hf hbase hdeps
                    obtain ⟨hk, -⟩ := bcell hW
                    have r128 : ρ (.tmp 128) = .pointer (some ⟨g, i * 3, none⟩) := hdeps 23 _ 128 (by kernel_rfl) rfl rfl
                    clear hbase hdeps
                    go_simp
                    exact ⟨Below.refl _ _, rfl⟩
                  · intro ρ W hW hc hg hf hbase hdeps
                    obtain ⟨hk, -⟩ := bcell hW
                    have r129 : ρ (.tmp 129) = .pointer (some ⟨g, i * 3 + 1, none⟩) := hdeps 24 _ 129 (by kernel_rfl) rfl rfl
                    clear hbase hdeps
                    go_simp
                    exact ⟨Below.refl _ _, rfl⟩
                  · intro ρ W hW hc hg hf hbase hdeps
                    obtain ⟨hk, -⟩ := bcell hW
                    have r130 : ρ (.tmp 130) = .slice A1 ndi.args.length c1 := hdeps 25 _ 130 (by kernel_rfl) rfl rfl
                    clear hbase hdeps
                    go_simp
                    exact ⟨Below.refl _ _, rfl⟩
                  · intro ρ W hW hc hg hf hbase hdeps
                    obtain ⟨hk, -⟩ := bcell hW
                    have r0 := hbase 0 (by kernel_rfl)
                    clear hbase hdeps
                    go_simp
                    exact ⟨Below.refl _ _, rfl⟩
                  · intro ρ W hW hc hg hf hbase hdeps
                    obtain ⟨hk, -⟩ := bcell hW
                    have r132 : ρ (.tmp 132) = .pointer (some ⟨gn, 0, none⟩) := hdeps 27 _ 132 (by kernel_rfl) rfl rfl
                    clear hbase hdeps
                    go_simp
                    exact ⟨Below.refl _ _, rfl⟩
                  · intro ρ W hW hc hg hf hbase hdeps
                    obtain ⟨hk, -⟩ := bcell hW
                    have r133 : ρ (.tmp 133) = .pointer (some ⟨gn, 0, none⟩) := hdeps 28 _ 133 (by kernel_rfl) rfl rfl
                    clear hbase hdeps
                    go_simp
                    exact ⟨Below.refl _ _, rfl⟩
                  · intro ρ W hW hc hg hf hbase hdeps
                    obtain ⟨hk, -⟩ := bcell hW
                    have r134 : ρ (.tmp 134) = .pointer (some ⟨gn, 0, none⟩) := hdeps 29 _ 134 (by kernel_rfl) rfl rfl
                    clear hbase hdeps
                    have kkg := cell_kept hW kcW
                    go_simp
                    exact ⟨Below.refl _ _, rfl⟩
                  · intro ρ W hW hc hg hf hbase hdeps
                    obtain ⟨hk, -⟩ := bcell hW
                    have r8 := hbase 8 (by kernel_rfl)
                    clear hbase hdeps
                    go_simp
                    exact ⟨Below.refl _ _, rfl⟩
                  · intro ρ W hW hc hg hf hbase hdeps
                    obtain ⟨hk, -⟩ := bcell hW
                    have r135 : ρ (.tmp 135) = .slice (some ⟨g, 0, none⟩) N.length cl := hdeps 30 _ 135 (by kernel_rfl) rfl rfl
                    have r136 : ρ (.tmp 136) = .int .i64 (j : Int) := hdeps 31 _ 136 (by kernel_rfl) rfl rfl
                    clear hbase hdeps
                    go_simp
                    exact ⟨Below.refl _ _, rfl⟩
                  · intro ρ W hW hc hg hf hbase hdeps
                    obtain ⟨hk, -⟩ := bcell hW
                    have r137 : ρ (.tmp 137) = .pointer (some ⟨g, j * 3, none⟩) := hdeps 32 _ 137 (by kernel_rfl) rfl rfl
                    clear hbase hdeps
                    go_simp
                    exact ⟨Below.refl _ _, rfl⟩
                  · intro ρ W hW hc hg hf hbase hdeps
                    obtain ⟨hk, -⟩ := bcell hW
                    have r138 : ρ (.tmp 138) = .pointer (some ⟨g, j * 3 + 1, none⟩) := hdeps 33 _ 138 (by kernel_rfl) rfl rfl
                    clear hbase hdeps
                    go_simp
                    exact ⟨Below.refl _ _, rfl⟩
                  · intro ρ W hW hc hg hf hbase hdeps
                    obtain ⟨hk, -⟩ := bcell hW
                    have r139 : ρ (.tmp 139) = .slice A2 ndi.args.length c2 := hdeps 34 _ 139 (by kernel_rfl) rfl rfl
                    clear hbase hdeps
                    go_simp
                    exact ⟨Below.refl _ _, rfl⟩
                · intro us W2 hW2 hus
                  have hu0 : us 0 = .pointer (some ⟨gn, 0, none⟩) := hus 0 (by decide)
                  have hu1 : us 1 = .pointer (some ⟨gn, 0, none⟩) := hus 1 (by decide)
                  have hu2 : us 2 = .pointer (some ⟨gn, 0, none⟩) := hus 2 (by decide)
                  have hu3 : us 3 = .slice (some ⟨g, 0, none⟩) N.length cl := hus 3 (by decide)
                  have hu4 : us 4 = .int .i64 (i : Int) := hus 4 (by decide)
                  have hu5 : us 5 = .pointer (some ⟨g, i * 3, none⟩) := hus 5 (by decide)
                  have hu6 : us 6 = .pointer (some ⟨g, i * 3, none⟩) := hus 6 (by decide)
                  have hu7 : us 7 = .int .i64 ndi.head := hus 7 (by decide)
                  have hu8 : us 8 = .pointer (some ⟨gn, 0, none⟩) := hus 8 (by decide)
                  have hu9 : us 9 = .pointer (some ⟨gn, 0, none⟩) := hus 9 (by decide)
                  have hu10 : us 10 = .pointer (some ⟨gn, 0, none⟩) := hus 10 (by decide)
                  have hu11 : us 11 = .slice (some ⟨g, 0, none⟩) N.length cl := hus 11 (by decide)
                  have hu12 : us 12 = .int .i64 (j : Int) := hus 12 (by decide)
                  have hu13 : us 13 = .pointer (some ⟨g, j * 3, none⟩) := hus 13 (by decide)
                  have hu14 : us 14 = .pointer (some ⟨g, j * 3, none⟩) := hus 14 (by decide)
                  have hu15 : us 15 = .int .i64 ndj.head := hus 15 (by decide)
                  have hu16 : us 16 = .bool false := hus 16 (by decide)
                  have hu17 : us 17 = .bool false := hus 17 (by decide)
                  have hu18 : us 18 = .pointer (some ⟨gn, 0, none⟩) := hus 18 (by decide)
                  have hu19 : us 19 = .pointer (some ⟨gn, 0, none⟩) := hus 19 (by decide)
                  have hu20 : us 20 = .pointer (some ⟨gn, 0, none⟩) := hus 20 (by decide)
                  have hu21 : us 21 = .slice (some ⟨g, 0, none⟩) N.length cl := hus 21 (by decide)
                  have hu22 : us 22 = .int .i64 (i : Int) := hus 22 (by decide)
                  have hu23 : us 23 = .pointer (some ⟨g, i * 3, none⟩) := hus 23 (by decide)
                  have hu24 : us 24 = .pointer (some ⟨g, i * 3 + 1, none⟩) := hus 24 (by decide)
                  have hu25 : us 25 = .slice A1 ndi.args.length c1 := hus 25 (by decide)
                  have hu26 : us 26 = .int .i64 (ndi.args.length : Int) := hus 26 (by decide)
                  have hu27 : us 27 = .pointer (some ⟨gn, 0, none⟩) := hus 27 (by decide)
                  have hu28 : us 28 = .pointer (some ⟨gn, 0, none⟩) := hus 28 (by decide)
                  have hu29 : us 29 = .pointer (some ⟨gn, 0, none⟩) := hus 29 (by decide)
                  have hu30 : us 30 = .slice (some ⟨g, 0, none⟩) N.length cl := hus 30 (by decide)
                  have hu31 : us 31 = .int .i64 (j : Int) := hus 31 (by decide)
                  have hu32 : us 32 = .pointer (some ⟨g, j * 3, none⟩) := hus 32 (by decide)
                  have hu33 : us 33 = .pointer (some ⟨g, j * 3 + 1, none⟩) := hus 33 (by decide)
                  have hu34 : us 34 = .slice A2 ndi.args.length c2 := hus 34 (by decide)
                  have hu35 : us 35 = .int .i64 (ndi.args.length : Int) := hus 35 (by decide)
                  clear hus
                  simp only [List.drop_succ_cons, List.drop_zero, List.take_succ_cons, List.take_zero, fill, Act.put, List.setIfInBounds_toArray, List.set_cons_succ, List.set_cons_zero, hu0, hu1, hu2, hu3, hu4, hu5, hu6, hu7, hu8, hu9, hu10, hu11, hu12, hu13, hu14, hu15, hu16, hu17, hu18, hu19, hu20, hu21, hu22, hu23, hu24, hu25, hu26, hu27, hu28, hu29, hu30, hu31, hu32, hu33, hu34, hu35]
                  clear hu0 hu1 hu2 hu3 hu4 hu5 hu6 hu7 hu8 hu9 hu10 hu11 hu12 hu13 hu14 hu15 hu16 hu17 hu18 hu19 hu20 hu21 hu22 hu23 hu24 hu25 hu26 hu27 hu28 hu29 hu30 hu31 hu32 hu33 hu34 hu35
                  have HX2 := Lib.hid (HX.out.trans (hW2.mono hzW))
                  have hz2 := hW2.size
                  have hmp2 := HM.out.keep (w1 := W2) (fun k hk => HX2.out.block k (HM.out.ge k hk).2) HX2.out.size
                  obtain ⟨km1, km2, km3⟩ := hmp2.cells (a := i) (b := j) hin hjn
                  have hms := hmp2.set (a := i) (b := j) hin
                  have hrmge := hmp2.ge (rm i) (.inr ⟨i, hin, rfl⟩)
                  have hrmlt := hrmge.2
                  obtain ⟨Wm, hWm⟩ : ∃ Wm, W2.setCell ⟨rm i, j, none⟩ (.bool true) = Wm := ⟨_, rfl⟩
                  have hkm : ∀ k, k < wr.heap.size → k ≠ rm i → Wm.heap[k]? = wr.heap[k]? := fun k hk hne => by
                    rw [← hWm, Below.heap_setCell _ _ _ _ hne]; exact HX2.out.block k hk
                  have hzm : wr.heap.size ≤ Wm.heap.size := by rw [← hWm]; have := HX2.out.size; simpa [World.setCell] using this
                  rw [hWm] at hms
                  have hnb5 := HNB.out.keep (w1 := Wm) (fun k hk => hkm k (HNB.out.lt k hk).2 (by have := HFlt.out k hk; omega)) hzm
                  have hb5 : Below base w Wm := by
                    rw [← hWm]
                    exact (HB.out.trans (HX2.out.mono (by omega))).setCell (p := ⟨rm i, j, none⟩) (by show base ≤ rm i; omega) _
                  obtain ⟨g', cap', hNR5⟩ := hnb5.netR (by omega)
                  have hc5 := cell_of_block hnb5.at_ (j := 0) (v := .slice (some ⟨g, 0, none⟩) N.length cl) rfl
                  obtain ⟨rfl, rfl⟩ : g = g' ∧ cl = cap' := by
                    have := hNR5.1
                    rw [hc5] at this
                    simp only [Option.some.injEq, Value.slice.injEq, Addr.mk.injEq] at this
                    exact ⟨this.1.1, this.2.2⟩
                  obtain ⟨-, -, -, A1', c1', ka5, -, hga5⟩ := hNR5.get HI.out
                  obtain ⟨-, -, -, A2', c2', kb5, -, hgb5⟩ := hNR5.get HJ.out
                  rw [← HLE.out] at kb5
                  have hil8 := HLB.out.2 _ _ HI.out
                  have HT5 : Hid (Sl KP (fun k => ¬ F k ∧ ¬ Mb gm N.length rm k) Wm l2 (.slice (some ⟨b, o + 2, none⟩) l2.length (c - 1))) := by
                    have : Sl KP (fun k => ¬ F k ∧ ¬ Mb gm N.length rm k) Wm l2 (.slice (some ⟨b, o + 2, none⟩) l2.length (c - 1)) :=
                      Sl.mono (fun _ h => h.1) (Sl.move (fun k hk => hkm k hk.2 (fun e => hk.1.2 (.inr ⟨i, hin, e⟩))) HT1.out.bound)
                    exact this
                  have HT6 : Hid (c = 1 → Sl KP (fun k => ¬ F k ∧ ¬ Mb gm N.length rm k) Wm l2 (.slice (some ⟨b, o, none⟩) l2.length 0)) := by
                    have : c = 1 → Sl KP (fun k => ¬ F k ∧ ¬ Mb gm N.length rm k) Wm l2 (.slice (some ⟨b, o, none⟩) l2.length 0) := fun e =>
                      Sl.mono (fun _ h => h.1) (Sl.move (fun k hk => hkm k hk.2 (fun e => hk.1.2 (.inr ⟨i, hin, e⟩))) (HT2.out e).bound)
                    exact this
                  have HMS := Lib.hid hms
                  have HNB5 := Lib.hid hnb5
                  have HB5 := Lib.hid hb5
                  have HKM := Lib.hid hkm
                  have HGA5 := Lib.hid hga5
                  have HGB5 := Lib.hid hgb5
                  have HWM := Lib.hid hWm
                  clear hW2 hmp2 kaW kbW kaW1 kbW1 kcW kfW hms hnb5 hb5 hkm hNR5 hga5 hgb5 hWm
                  go_wp2_with fail
                  rw [HWM.out]
                  go_loopg [11, 12] (ndi.args.length + 1) (fun k v i12 wi => ∃ d : Nat, d + k = ndi.args.length + 1 ∧ i12 = .int .i64 d ∧ d ≤ ndi.args.length ∧ Own KP 57 (fun _ => False) Wm.heap.size wi v ((ndi.args.zip ndj.args).take d) ∧ Below Wm.heap.size Wm wi)
                  case atStart => exact ⟨0, by omega, rfl, by omega, Own.nil _ _ _ _ _, Below.refl _ _⟩
                  case round =>
                    obtain ⟨d, hdk, rfl, hdl, hO, hBi⟩ := hrel
                    have kci := cell_kept hBi hc5
                    have kai := cell_kept hBi ka5
                    have kbi := cell_kept hBi kb5
                    have hzi := hBi.size
                    have hzl : (ndi.args.zip ndj.args).length = ndi.args.length := by have := HLE.out; simp; omega
                    by_cases hd : d < ndi.args.length
                    · have hdj : d < ndj.args.length := by rw [← HLE.out]; exact hd
                      obtain ⟨b1, o1, rfl, hca⟩ := HGA5.out (by omega)
                      obtain ⟨b2, o2, rfl, hcb⟩ := HGB5.out (by omega)
                      have kea := cell_kept hBi (hca d hd)
                      have keb := cell_kept hBi (hcb d hdj)
                      obtain ⟨Av, cv, rfl⟩ := hO.shape
                      generalize hnv : ((ndi.args.zip ndj.args).take d).length = nv at hO ⊢
                      have HO := Lib.hid hO
                      have HBI5 := Lib.hid hBi
                      clear hO hBi hca hcb hc5 ka5 kb5
                      go_wp2_with fail
                      refine wp_mix_pre [(0, .slice Av nv cv)] [0] 25 191 (fun ix W u => match ix with | 0 => u = .slice Av nv cv | 1 => u = .pointer (some ⟨gn, 0, none⟩) | 2 => u = .pointer (some ⟨gn, 0, none⟩) | 3 => u = .pointer (some ⟨gn, 0, none⟩) | 4 => u = .slice (some ⟨g, 0, none⟩) N.length cl | 5 => u = .int .i64 (i : Int) | 6 => u = .pointer (some ⟨g, i * 3, none⟩) | 7 => u = .pointer (some ⟨g, i * 3 + 1, none⟩) | 8 => u = .slice (some ⟨b1, o1, none⟩) ndi.args.length c1' | 9 => u = .int .i64 (d : Int) | 10 => u = .pointer (some ⟨b1, o1 + d, none⟩) | 11 => u = .int .i64 (ndi.args[d] : Int) | 12 => u = .pointer (some ⟨gn, 0, none⟩) | 13 => u = .pointer (some ⟨gn, 0, none⟩) | 14 => u = .pointer (some ⟨gn, 0, none⟩) | 15 => u = .slice (some ⟨g, 0, none⟩) N.length cl | 16 => u = .int .i64 (j : Int) | 17 => u = .pointer (some ⟨g, j * 3, none⟩) | 18 => u = .pointer (some ⟨g, j * 3 + 1, none⟩) | 19 => u = .slice (some ⟨b2, o2, none⟩) ndi.args.length c2' | 20 => u = .int .i64 (d : Int) | 21 => u = .pointer (some ⟨b2, o2 + d, none⟩) | 22 => u = .int .i64 (ndj.args[d] : Int) | 23 => u = .agg #[.int .i64 (ndi.args[d] : Int), .int .i64 (ndj.args[d] : Int)] | 24 => ∃ b, u = .slice (some ⟨b, 0, none⟩) 1 1 ∧ Row KP (fun _ => False) W [(ndi.args[d], ndj.args[d])] b 0 | _ => True) rfl (by kernel_rfl) rfl (by decide +kernel) (fun ix W W' u hb h => by match ix, h with | 0, h => exact h | 1, h => exact h | 2, h => exact h | 3, h => exact h | 4, h => exact h | 5, h => exact h | 6, h => exact h | 7, h => exact h | 8, h => exact h | 9, h => exact h | 10, h => exact h | 11, h => exact h | 12, h => exact h | 13, h => exact h | 14, h => exact h | 15, h => exact h | 16, h => exact h | 17, h => exact h | 18, h => exact h | 19, h => exact h | 20, h => exact h | 21, h => exact h | 22, h => exact h | 23, h => exact h | 24, h => exact (by obtain ⟨b, e, hr⟩ := h; exact ⟨b, e, hr.later hb⟩) | _ + 25, h => exact h) (by kernel_rfl) (fun c a d v w h => by cases d <;> exact h) (by kernel_rfl) (by decide) (by kernel_rfl) ?_ ?_ ?_
                      · intro i v h
                        simp only [List.mem_cons, List.not_mem_nil, or_false, Prod.mk.injEq] at h
                        rcases h with ⟨rfl, rfl⟩
                        · exact ⟨fun _ => rfl, fun o w ho => by cases ho; rfl⟩
                      · refine goes_cons rfl ?_ (goes_cons rfl ?_ (goes_cons rfl ?_ (goes_cons rfl ?_ (goes_cons rfl ?_ (goes_cons rfl ?_ (goes_cons rfl ?_ (goes_cons rfl ?_ (goes_cons rfl ?_ (goes_cons rfl ?_ (goes_cons rfl ?_ (goes_cons rfl ?_ (goes_cons rfl ?_ (goes_cons rfl ?_ (goes_cons rfl ?_ (goes_cons rfl ?_ (goes_cons rfl ?_ (goes_cons rfl ?_ (goes_cons rfl ?_ (goes_cons rfl ?_ (goes_cons rfl ?_ (goes_cons rfl ?_ (goes_cons rfl ?_ (goes_cons rfl ?_ (goes_cons rfl ?_ (goes_nil)))))))))))))))))))))))))
                        · intro ρ W hW hc hg hf hbase hdeps
                          obtain ⟨hk, -⟩ := bcell hW
                          have r11 := hbase 11 (by kernel_rfl)
                          clear hbase hdeps
                          have kk1 := cell_kept hW kci
                          have kk2 := cell_kept hW kai
                          have kk3 := cell_kept hW kbi
                          have kk4 := cell_kept hW kea
                          have kk5 := cell_kept hW keb
                          go_simp
                          exact ⟨Below.refl _ _, rfl⟩
                        · intro ρ W hW hc hg hf hbase hdeps
                          obtain ⟨hk, -⟩ := bcell hW
                          have r0 := hbase 0 (by kernel_rfl)
                          clear hbase hdeps
                          have kk1 := cell_kept hW kci
                          have kk2 := cell_kept hW kai
                          have kk3 := cell_kept hW kbi
                          have kk4 := cell_kept hW kea
                          have kk5 := cell_kept hW keb
                          go_simp
                          exact ⟨Below.refl _ _, rfl⟩
                        · intro ρ W hW hc hg hf hbase hdeps
                          obtain ⟨hk, -⟩ := bcell hW
                          have r163 : ρ (.tmp 163) = .pointer (some ⟨gn, 0, none⟩) := hdeps 1 _ 163 (by kernel_rfl) rfl rfl
                          clear hbase hdeps
                          have kk1 := cell_kept hW kci
                          have kk2 := cell_kept hW kai
                          have kk3 := cell_kept hW kbi
                          have kk4 := cell_kept hW kea
                          have kk5 := cell_kept hW keb
                          go_simp
                          exact ⟨Below.refl _ _, rfl⟩
                        · intro ρ W hW hc hg hf hbase hdeps
                          obtain ⟨hk, -⟩ := bcell hW
                          have r164 : ρ (.tmp 164) = .pointer (some ⟨gn, 0, none⟩) := hdeps 2 _ 164 (by kernel_rfl) rfl rfl
                          clear hbase hdeps
                          have kk1 := cell_kept hW kci
                          have kk2 := cell_kept hW kai
                          have kk3 := cell_kept hW kbi
                          have kk4 := cell_kept hW kea
                          have kk5 := cell_kept hW keb
                          go_simp
                          exact ⟨Below.refl _ _, rfl⟩
                        · intro ρ W hW hc hg hf hbase hdeps
                          obtain ⟨hk, -⟩ := bcell hW
                          have r165 : ρ (.tmp 165) = .pointer (some ⟨gn, 0, none⟩) := hdeps 3 _ 165 (by kernel_rfl) rfl rfl
                          clear hbase hdeps
                          have kk1 := cell_kept hW kci
                          have kk2 := cell_kept hW kai
                          have kk3 := cell_kept hW kbi
                          have kk4 := cell_kept hW kea
                          have kk5 := cell_kept hW keb
                          go_simp
                          exact ⟨Below.refl _ _, rfl⟩
                        · intro ρ W hW hc hg hf hbase hdeps
                          obtain ⟨hk, -⟩ := bcell hW
                          have r7 := hbase 7 (by kernel_rfl)
                          clear hbase hdeps
                          have kk1 := cell_kept hW kci
                          have kk2 := cell_kept hW kai
                          have kk3 := cell_kept hW kbi
                          have kk4 := cell_kept hW kea
                          have kk5 := cell_kept hW keb
                          go_simp
                          exact ⟨Below.refl _ _, rfl⟩
                        · intro ρ W hW hc hg hf hbase hdeps
                          obtain ⟨hk, -⟩ := bcell hW
                          have r166 : ρ (.tmp 166) = .slice (some ⟨g, 0, none⟩) N.length cl := hdeps 4 _ 166 (by kernel_rfl) rfl rfl
                          have r167 : ρ (.tmp 167) = .int .i64 (i : Int) := hdeps 5 _ 167 (by kernel_rfl) rfl rfl
                          clear hbase hdeps
                          have kk1 := cell_kept hW kci
                          have kk2 := cell_kept hW kai
                          have kk3 := cell_kept hW kbi
                          have kk4 := cell_kept hW kea
                          have kk5 := cell_kept hW keb
                          go_simp
                          exact ⟨Below.refl _ _, rfl⟩
                        · intro ρ W hW hc hg hf hbase hdeps
                          obtain ⟨hk, -⟩ := bcell hW
                          have r168 : ρ (.tmp 168) = .pointer (some ⟨g, i * 3, none⟩) := hdeps 6 _ 168 (by kernel_rfl) rfl rfl
                          clear hbase hdeps
                          have kk1 := cell_kept hW kci
                          have kk2 := cell_kept hW kai
                          have kk3 := cell_kept hW kbi
                          have kk4 := cell_kept hW kea
                          have kk5 := cell_kept hW keb
                          go_simp
                          exact ⟨Below.refl _ _, rfl⟩
                        · intro ρ W hW hc hg hf hbase hdeps
                          obtain ⟨hk, -⟩ := bcell hW
                          have r169 : ρ (.tmp 169) = .pointer (some ⟨g, i * 3 + 1, none⟩) := hdeps 7 _ 169 (by kernel_rfl) rfl rfl
                          clear hbase hdeps
                          have kk1 := cell_kept hW kci
                          have kk2 := cell_kept hW kai
                          have kk3 := cell_kept hW kbi
                          have kk4 := cell_kept hW kea
                          have kk5 := cell_kept hW keb
                          go_simp
                          exact ⟨Below.refl _ _, rfl⟩
                        · intro ρ W hW hc hg hf hbase hdeps
                          obtain ⟨hk, -⟩ := bcell hW
                          have r12 := hbase 12 (by kernel_rfl)
                          clear hbase hdeps
                          have kk1 := cell_kept hW kci
                          have kk2 := cell_kept hW kai
                          have kk3 := cell_kept hW kbi
                          have kk4 := cell_kept hW kea
                          have kk5 := cell_kept hW keb
                          go_simp
                          exact ⟨Below.refl _ _, rfl⟩
                        · intro ρ W hW hc hg hf hbase hdeps
                          obtain ⟨hk, -⟩ := bcell hW
                          have r170 : ρ (.tmp 170) = .slice (some ⟨b1, o1, none⟩) ndi.args.length c1' := hdeps 8 _ 170 (by kernel_rfl) rfl rfl
                          have r171 : ρ (.tmp 171) = .int .i64 (d : Int) := hdeps 9 _ 171 (by kernel_rfl) rfl rfl
                          clear hbase hdeps
                          have kk1 := cell_kept hW kci
                          have kk2 := cell_kept hW kai
                          have kk3 := cell_kept hW kbi
                          have kk4 := cell_kept hW kea
                          have kk5 := cell_kept hW keb
                          go_simp
                          exact ⟨Below.refl _ _, rfl⟩
                        · intro ρ W hW hc hg hf hbase hdeps
                          obtain ⟨hk, -⟩ := bcell hW
                          have r172 : ρ (.tmp 172) = .pointer (some ⟨b1, o1 + d, none⟩) := hdeps 10 _ 172 (by kernel_rfl) rfl rfl
                          clear hbase hdeps
                          have kk1 := cell_kept hW kci
                          have kk2 := cell_kept hW kai
                          have kk3 := cell_kept hW kbi
                          have kk4 := cell_kept hW kea
                          have kk5 := cell_kept hW keb
                          go_simp
                          exact ⟨Below.refl _ _, rfl⟩
                        · intro ρ W hW hc hg hf hbase hdeps
                          obtain ⟨hk, -⟩ := bcell hW
                          have r0 := hbase 0 (by kernel_rfl)
                          clear hbase hdeps
                          have kk1 := cell_kept hW kci
                          have kk2 := cell_kept hW kai
                          have kk3 := cell_kept hW kbi
                          have kk4 := cell_kept hW kea
                          have kk5 := cell_kept hW keb
                          go_simp
                          exact ⟨Below.refl _ _, rfl⟩
                        · intro ρ W hW hc hg hf hbase hdeps
                          obtain ⟨hk, -⟩ := bcell hW
                          have r174 : ρ (.tmp 174) = .pointer (some ⟨gn, 0, none⟩) := hdeps 12 _ 174 (by kernel_rfl) rfl rfl
                          clear hbase hdeps
                          have kk1 := cell_kept hW kci
                          have kk2 := cell_kept hW kai
                          have kk3 := cell_kept hW kbi
                          have kk4 := cell_kept hW kea
                          have kk5 := cell_kept hW keb
                          go_simp
                          exact ⟨Below.refl _ _, rfl⟩
                        · intro ρ W hW hc hg hf hbase hdeps
                          obtain ⟨hk, -⟩ := bcell hW
                          have r175 : ρ (.tmp 175) = .pointer (some ⟨gn, 0, none⟩) := hdeps 13 _ 175 (by kernel_rfl) rfl rfl
                          clear hbase hdeps
                          have kk1 := cell_kept hW kci
                          have kk2 := cell_kept hW kai
                          have kk3 := cell_kept hW kbi
                          have kk4 := cell_kept hW kea
                          have kk5 := cell_kept hW keb
                          go_simp
                          exact ⟨Below.refl _ _, rfl⟩
                        · intro ρ W hW hc hg hf hbase hdeps
                          obtain ⟨hk, -⟩ := bcell hW
                          have r176 : ρ (.tmp 176) = .pointer (some ⟨gn, 0, none⟩) := hdeps 14 _ 176 (by kernel_rfl) rfl rfl
                          clear hbase hdeps
                          have kk1 := cell_kept hW kci
                          have kk2 := cell_kept hW kai
                          have kk3 := cell_kept hW kbi
                          have kk4 := cell_kept hW kea
                          have kk5 := cell_kept hW keb
                          go_simp
                          exact ⟨Below.refl _ _, rfl⟩
                        · intro ρ W hW hc hg hf hbase hdeps
                          obtain ⟨hk, -⟩ := bcell hW
                          have r8 := hbase 8 (by kernel_rfl)
                          clear hbase hdeps
                          have kk1 := cell_kept hW kci
                          have kk2 := cell_kept hW kai
                          have kk3 := cell_kept hW kbi
                          have kk4 := cell_kept hW kea
                          have kk5 := cell_kept hW keb
                          go_simp
                          exact ⟨Below.refl _ _, rfl⟩
                        · intro ρ W hW hc hg hf hbase hdeps
                          obtain ⟨hk, -⟩ := bcell hW
                          have r177 : ρ (.tmp 177) = .slice (some ⟨g, 0, none⟩) N.length cl := hdeps 15 _ 177 (by kernel_rfl) rfl rfl
                          have r178 : ρ (.tmp 178) = .int .i64 (j : Int) := hdeps 16 _ 178 (by kernel_rfl) rfl rfl
                          clear hbase hdeps
                          have kk1 := cell_kept hW kci
                          have kk2 := cell_kept hW kai
                          have kk3 := cell_kept hW kbi
                          have kk4 := cell_kept hW kea
                          have kk5 := cell_kept hW keb
                          go_simp
                          exact ⟨Below.refl _ _, rfl⟩
                        · intro ρ W hW hc hg hf hbase hdeps
                          obtain ⟨hk, -⟩ := bcell hW
                          have r179 : ρ (.tmp 179) = .pointer (some ⟨g, j * 3, none⟩) := hdeps 17 _ 179 (by kernel_rfl) rfl rfl
                          clear hbase hdeps
                          have kk1 := cell_kept hW kci
                          have kk2 := cell_kept hW kai
                          have kk3 := cell_kept hW kbi
                          have kk4 := cell_kept hW kea
                          have kk5 := cell_kept hW keb
                          go_simp
                          exact ⟨Below.refl _ _, rfl⟩
                        · intro ρ W hW hc hg hf hbase hdeps
                          obtain ⟨hk, -⟩ := bcell hW
                          have r180 : ρ (.tmp 180) = .pointer (some ⟨g, j * 3 + 1, none⟩) := hdeps 18 _ 180 (by kernel_rfl) rfl rfl
                          clear hbase hdeps
                          have kk1 := cell_kept hW kci
                          have kk2 := cell_kept hW kai
                          have kk3 := cell_kept hW kbi
                          have kk4 := cell_kept hW kea
                          have kk5 := cell_kept hW keb
                          go_simp
                          exact ⟨Below.refl _ _, rfl⟩
                        · intro ρ W hW hc hg hf hbase hdeps
                          obtain ⟨hk, -⟩ := bcell hW
                          have r12 := hbase 12 (by kernel_rfl)
                          clear hbase hdeps
                          have kk1 := cell_kept hW kci
                          have kk2 := cell_kept hW kai
                          have kk3 := cell_kept hW kbi
                          have kk4 := cell_kept hW kea
                          have kk5 := cell_kept hW keb
                          go_simp
                          exact ⟨Below.refl _ _, rfl⟩
                        · intro ρ W hW hc hg hf hbase hdeps
                          obtain ⟨hk, -⟩ := bcell hW
                          have r181 : ρ (.tmp 181) = .slice (some ⟨b2, o2, none⟩) ndi.args.length c2' := hdeps 19 _ 181 (by kernel_rfl) rfl rfl
                          have r182 : ρ (.tmp 182) = .int .i64 (d : Int) := hdeps 20 _ 182 (by kernel_rfl) rfl rfl
                          clear hbase hdeps
                          have kk1 := cell_kept hW kci
                          have kk2 := cell_kept hW kai
                          have kk3 := cell_kept hW kbi
                          have kk4 := cell_kept hW kea
                          have kk5 := cell_kept hW keb
                          go_simp
                          exact ⟨Below.refl _ _, rfl⟩
                        · intro ρ W hW hc hg hf hbase hdeps
                          obtain ⟨hk, -⟩ := bcell hW
                          have r183 : ρ (.tmp 183) = .pointer (some ⟨b2, o2 + d, none⟩) := hdeps 21 _ 183 (by kernel_rfl) rfl rfl
                          clear hbase hdeps
                          have kk1 := cell_kept hW kci
                          have kk2 := cell_kept hW kai
                          have kk3 := cell_kept hW kbi
                          have kk4 := cell_kept hW kea
                          have kk5 := cell_kept hW keb
                          go_simp
                          exact ⟨Below.refl _ _, rfl⟩
                        · intro ρ W hW hc hg hf hbase hdeps
                          obtain ⟨hk, -⟩ := bcell hW
                          have r173 : ρ (.tmp 173) = .int .i64 (ndi.args[d] : Int) := hdeps 11 _ 173 (by kernel_rfl) rfl rfl
                          have r184 : ρ (.tmp 184) = .int .i64 (ndj.args[d] : Int) := hdeps 22 _ 184 (by kernel_rfl) rfl rfl
                          clear hbase hdeps
                          have kk1 := cell_kept hW kci
                          have kk2 := cell_kept hW kai
                          have kk3 := cell_kept hW kbi
                          have kk4 := cell_kept hW kea
                          have kk5 := cell_kept hW keb
                          go_simp
                          exact ⟨Below.refl _ _, rfl⟩
                        · intro ρ W hW hc hg hf hbase hdeps
                          obtain ⟨hk, -⟩ := bcell hW
                          have r185 : ρ (.tmp 185) = .agg #[.int .i64 (ndi.args[d] : Int), .int .i64 (ndj.args[d] : Int)] := hdeps 23 _ 185 (by kernel_rfl) rfl rfl
                          clear hbase hdeps
                          have kk1 := cell_kept hW kci
                          have kk2 := cell_kept hW kai
                          have kk3 := cell_kept hW kbi
                          have kk4 := cell_kept hW kea
                          have kk5 := cell_kept hW keb
                          go_simp
                          exact ⟨(Below.refl _ _).alloc (Nat.le_refl _) _, _, rfl, row_of_block (K := KP) rfl _⟩
                      · intro us W3 hW3 hus
                        have hu0 : us 0 = .slice Av nv cv := hus 0 (by decide)
                        have hu1 : us 1 = .pointer (some ⟨gn, 0, none⟩) := hus 1 (by decide)
                        have hu2 : us 2 = .pointer (some ⟨gn, 0, none⟩) := hus 2 (by decide)
                        have hu3 : us 3 = .pointer (some ⟨gn, 0, none⟩) := hus 3 (by decide)
                        have hu4 : us 4 = .slice (some ⟨g, 0, none⟩) N.length cl := hus 4 (by decide)
                        have hu5 : us 5 = .int .i64 (i : Int) := hus 5 (by decide)
                        have hu6 : us 6 = .pointer (some ⟨g, i * 3, none⟩) := hus 6 (by decide)
                        have hu7 : us 7 = .pointer (some ⟨g, i * 3 + 1, none⟩) := hus 7 (by decide)
                        have hu8 : us 8 = .slice (some ⟨b1, o1, none⟩) ndi.args.length c1' := hus 8 (by decide)
                        have hu9 : us 9 = .int .i64 (d : Int) := hus 9 (by decide)
                        have hu10 : us 10 = .pointer (some ⟨b1, o1 + d, none⟩) := hus 10 (by decide)
                        have hu11 : us 11 = .int .i64 (ndi.args[d] : Int) := hus 11 (by decide)
                        have hu12 : us 12 = .pointer (some ⟨gn, 0, none⟩) := hus 12 (by decide)
                        have hu13 : us 13 = .pointer (some ⟨gn, 0, none⟩) := hus 13 (by decide)
                        have hu14 : us 14 = .pointer (some ⟨gn, 0, none⟩) := hus 14 (by decide)
                        have hu15 : us 15 = .slice (some ⟨g, 0, none⟩) N.length cl := hus 15 (by decide)
                        have hu16 : us 16 = .int .i64 (j : Int) := hus 16 (by decide)
                        have hu17 : us 17 = .pointer (some ⟨g, j * 3, none⟩) := hus 17 (by decide)
                        have hu18 : us 18 = .pointer (some ⟨g, j * 3 + 1, none⟩) := hus 18 (by decide)
                        have hu19 : us 19 = .slice (some ⟨b2, o2, none⟩) ndi.args.length c2' := hus 19 (by decide)
                        have hu20 : us 20 = .int .i64 (d : Int) := hus 20 (by decide)
                        have hu21 : us 21 = .pointer (some ⟨b2, o2 + d, none⟩) := hus 21 (by decide)
                        have hu22 : us 22 = .int .i64 (ndj.args[d] : Int) := hus 22 (by decide)
                        have hu23 : us 23 = .agg #[.int .i64 (ndi.args[d] : Int), .int .i64 (ndj.args[d] : Int)] := hus 23 (by decide)
                        have hu24 : (fun u W => ∃ b, u = .slice (some ⟨b, 0, none⟩) 1 1 ∧ Row KP (fun _ => False) W [(ndi.args[d], ndj.args[d])] b 0) (us 24) W3 := hus 24 (by decide)
                        dsimp only at hu24
                        clear hus
                        simp only [List.drop_succ_cons, List.drop_zero, List.take_succ_cons, List.take_zero, fill, Act.put, List.setIfInBounds_toArray, List.set_cons_succ, List.set_cons_zero, hu0, hu1, hu2, hu3, hu4, hu5, hu6, hu7, hu8, hu9, hu10, hu11, hu12, hu13, hu14, hu15, hu16, hu17, hu18, hu19, hu20, hu21, hu22, hu23]
                        clear hu0 hu1 hu2 hu3 hu4 hu5 hu6 hu7 hu8 hu9 hu10 hu11 hu12 hu13 hu14 hu15 hu16 hu17 hu18 hu19 hu20 hu21 hu22 hu23
                        generalize us 24 = u24 at *
                        obtain ⟨bn, rfl, hrow⟩ := hu24
                        have hO1 := HO.out.later hW3
                        have hbw3 := HBI5.out.trans (hW3.mono (by omega))
                        have hz3 := hbw3.size
                        refine wp_append (K := KP) (F := fun _ => False) (F1 := fun _ => False) Wm.heap.size ?a1 (.tmp 162) (.tmp 186) 54 57 (.agg #[.int .i64 0, .int .i64 0]) ?a2 Try.underlying54 Try.infoP ?a3 (.slice Av nv cv) ((ndi.args.zip ndj.args).take d) [(ndi.args[d], ndj.args[d])] ?a4 bn 0 1 ?a5 hO1 hrow (fun k h => h.elim) ?a6 (by omega) ?_
                        case a1 => rfl
                        case a2 => rfl
                        case a3 => rfl
                        case a4 => rfl
                        case a5 => rfl
                        case a6 =>
                          have e : (KP).by_ = 16 := rfl
                          rw [e, hnv]
                          have : nv ≤ d := by rw [← hnv]; simp; omega
                          simp only [List.length_cons, List.length_nil]; omega
                        · intro v4 w4 hO4 hg4 hat4 _
                          have htk : (ndi.args.zip ndj.args).take d ++ [(ndi.args[d], ndj.args[d])] = (ndi.args.zip ndj.args).take (d + 1) := by
                            rw [List.take_add_one, List.getElem?_eq_getElem (by rw [hzl]; exact hd)]
                            simp
                          rw [htk] at hO4
                          have hb4 := hbw3.grown hg4 hz3 (fun k hk => (HO.out.block k hk).1)
                          have HO4 := Lib.hid hO4
                          have HB4 := Lib.hid hb4
                          clear hO4 hb4 hg4 hat4 htk hO1 hrow hbw3
                          go_wp2
                          go_roundg (gk - 1)
                          case rel => exact ⟨d + 1, by omega, by go_num, by omega, HO4.out, HB4.out⟩
                          case measure => omega
                    · have hdd : (ndi.args.zip ndj.args).take d = ndi.args.zip ndj.args := List.take_of_length_le (by omega)
                      rw [hdd] at hO
                      obtain ⟨Av, cv, rfl⟩ := hO.shape
                      have hr5 := row_sl (HT5.out.later hBi)
                      generalize hnv : (ndi.args.zip ndj.args).length = nv at hO ⊢
                      have HO := Lib.hid hO
                      have HBI5 := Lib.hid hBi
                      have HR5 := Lib.hid hr5
                      have hlb := HLB.out.1
                      clear hO hBi hc5 ka5 kb5 hr5 hdd
                      go_wp2_with (at_builtin; (first | (refine wp_append (K := KP) (F := fun _ => False) (F1 := fun _ => False) Wm.heap.size rfl (.tmp 188) (.tmp 189) 54 57 (.agg #[.int .i64 0, .int .i64 0]) rfl Try.underlying54 Try.infoP rfl (.slice Av nv cv) (ndi.args.zip ndj.args) l2 rfl b (o + 2) (c - 1) rfl HO.out HR5.out (fun k h => h.elim) (by have e : (KP).by_ = 16 := rfl; rw [e, hnv]; omega) hzi ?_) | (refine wp_append (K := KP) (F := fun _ => False) (F1 := fun _ => False) Wm.heap.size rfl (.tmp 188) (.tmp 189) 54 57 (.agg #[.int .i64 0, .int .i64 0]) rfl Try.underlying54 Try.infoP rfl (.slice Av nv cv) (ndi.args.zip ndj.args) l2 rfl b o 0 rfl HO.out (row_sl ((HT6.out (by omega)).later HBI5.out)) (fun k h => h.elim) (by have e : (KP).by_ = 16 := rfl; rw [e, hnv]; omega) hzi ?_)); intro v5 w5 hO5 hg5 hat5 _hsh5; have HO5 := Lib.hid hO5; have HG5 := Lib.hid hg5; clear hO5 hg5 hat5 _hsh5)
                      have hb6 := HBI5.out.grown HG5.out hzi (fun k hk => (HO.out.block k hk).1)
                      have hz6 := hb6.size
                      have hnb6 := HNB5.out.keep (w1 := w5) (fun k hk => hb6.block k (HNB5.out.lt k hk).2) hz6
                      have hms6 := HMS.out.keep (w1 := w5) (fun k hk => hb6.block k (HMS.out.ge k hk).2) hz6
                      have hsl6 : Sl KP (fun k => ¬ F k ∧ ¬ Mb gm N.length rm k) w5 (ndi.args.zip ndj.args ++ l2) v5 := HO5.out.sl.mono (fun k hk => by
                        rcases hk with hk | hk
                        · exact hk.elim
                        · have hge := (HO5.out.block k hk.symm).1
                          exact ⟨fun h => by have := HFlt.out k h; omega, fun h => by have := (HMS.out.ge k h).2; omega⟩)
                      have hun := unmet_add hin hjn hmf
                      have hlb6 : (ndi.args.zip ndj.args ++ l2).length + 8 * unmet N.length (m.add i j) ≤ 1000000000000 := by
                        rw [List.length_append]; omega
                      have hke6 : ∀ k, k < gm → ¬ F k → w5.heap[k]? = w.heap[k]? := fun k hk hF => (hb6.block k (by omega)).trans ((HKM.out k (by omega) (by omega)).trans (HKe.out k hk hF))
                      go_roundg (k' + 1)
                      case rel =>
                        have hkk := HKK.out
                        exact ⟨n, s1, m.add i j, _, cs1, k', rfl, HRun.out, hlen, ⟨hlb6, HLB.out.2⟩, HN1.out, HR1.out, hnb6, hms6, hsl6, HB5.out.trans (hb6.mono (by have := HB5.out.size; omega)), hke6⟩
                      case measure => have := HKK.out; omega
end Go.Proofs.Ytokhnlhffnidmaa
