/- The reference's run exists, and it answers what Run answers. -/
import Derived.Test.YtokhnlhffnidmaaPlainC
namespace Go.Proofs.Ytokhnlhffnidmaa.Elen

theorem EqAt.of_beh {n : List Nd} {s s' : Sub} (hn : Net n) (hr : Rep n s) (he : Ext s s') {p : Nat × Nat} {i j : Nat} {ti tj : T} (bi : Beh n p.1 i) (bj : Beh n p.2 j) (di : Den n i ti) (dj : Den n j tj) (h : EqAt n s' (i, j)) : EqAt n s' p :=
  fun _ _ fa fb ha hb hfa hfb => h ti tj fa fb di dj (bi.full_to hn hr he ha di hfa) (bj.full_to hn hr he hb dj hfb)
theorem EqAt.refl {n : List Nd} {s' : Sub} {i : Nat} : EqAt n s' (i, i) := fun _ _ _ _ h1 h2 h3 h4 => by
  have := h1.det h2; subst this; exact h3.det h4
theorem EqAt.symm {n : List Nd} {s' : Sub} {i j : Nat} (h : EqAt n s' (i, j)) : EqAt n s' (j, i) := fun _ _ _ _ h1 h2 h3 h4 => (h _ _ _ _ h2 h1 h4 h3).symm
theorem EqAt.like {n n' : List Nd} {s' : Sub} {p : Nat × Nat} (lk : Like n n') (h : EqAt n s' p) : EqAt n' s' p := fun _ _ _ _ h1 h2 h3 h4 => h _ _ _ _ (h1.like lk.symm) (h2.like lk.symm) h3 h4

theorem EqAt.node {n : List Nd} {s' : Sub} {i j : Nat} {x y : Nd} (gi : n[i]? = some x) (gj : n[j]? = some y) (h0 : 0 ≤ x.head) (he : x.head = y.head) (hl : x.args.length = y.args.length) (h : ∀ p, p ∈ x.args.zip y.args → EqAt n s' p) : EqAt n s' (i, j) := by
  intro ti tj fi fj di dj hfi hfj
  cases di with
  | @mk _ nd ts e1 l1 k1 =>
    rw [gi] at e1; cases e1
    cases dj with
    | @mk _ nd' ts' e2 l2 k2 =>
      rw [gj] at e2; cases e2
      cases hfi with
      | free h1 => omega
      | bound h1 => omega
      | @node _ _ as' _ m1 q1 =>
        cases hfj with
        | free h1 => omega
        | bound h1 => omega
        | @node _ _ bs' _ m2 q2 =>
          rw [he]
          congr 1
          refine List.ext_getElem (by omega) fun k hk hk' => ?_
          have hz : k < (x.args.zip y.args).length := by simp; omega
          have := h _ (List.getElem_mem hz)
          simp only [List.getElem_zip] at this
          exact this _ _ _ _ (k1 k (by omega) (by omega)) (k2 k (by omega) (by omega)) (q1 k (by omega) hk) (q2 k (by omega) hk')

theorem MetOK.skip {n : List Nd} {s : Sub} {m : Met} {p : Nat × Nat} {l : List (Nat × Nat)} (h : MetOK n s m (p :: l)) (hE : ∀ s', Ext s s' → EqAt n s' p) : MetOK n s m l := by
  intro a b hm
  obtain ⟨k, hk, h1, h2⟩ := h a b hm
  cases k with
  | zero => exact ⟨0, by omega, by simp, fun s' he _ => h2 s' he (by simp)⟩
  | succ k =>
    refine ⟨k, by simpa using hk, fun q hq => h1 q (by simp [List.take_succ_cons, hq]), fun s' he hh => h2 s' he (fun q hq => ?_)⟩
    rw [List.take_succ_cons] at hq
    rcases List.mem_cons.1 hq with rfl | hq
    · exact hE s' he
    · exact hh q hq

theorem MetOK.bind {n : List Nd} {s : Sub} {m : Met} {p : Nat × Nat} {l : List (Nat × Nat)} {a b : Nat} {x : Nd} {v : Int} {t : T} (h : MetOK n s m (p :: l)) (ga : n[a]? = some x) (hto : x.to < 0) (hf : s v = none) (hE : ∀ s', Ext (s.set v t) s' → EqAt n s' p) : MetOK (setTo n a b) (s.set v t) m l := by
  have lk := Like.setTo n a (b : Int)
  intro c d hm
  obtain ⟨k, hk, h1, h2⟩ := h c d hm
  cases k with
  | zero => exact ⟨0, by omega, by simp, fun s' he _ => (h2 s' ((Ext.set hf).trans he) (by simp)).like lk⟩
  | succ k =>
    refine ⟨k, by simpa using hk, fun q hq => (h1 q (by simp [List.take_succ_cons, hq])).bind ga hto, fun s' he hh => (h2 s' ((Ext.set hf).trans he) (fun q hq => ?_)).like lk⟩
    rw [List.take_succ_cons] at hq
    rcases List.mem_cons.1 hq with rfl | hq
    · exact hE s' he
    · exact (hh q hq).like lk.symm

theorem MetOK.node {n : List Nd} {s : Sub} {m : Met} {p : Nat × Nat} {l : List (Nat × Nat)} {i j : Nat} {x y : Nd} (hn : Net n) (hr : Rep n s) (h : MetOK n s m (p :: l)) (bi : Beh n p.1 i) (bj : Beh n p.2 j) (gi : n[i]? = some x) (gj : n[j]? = some y) (h0 : 0 ≤ x.head) (he : x.head = y.head) (hl : x.args.length = y.args.length) {ti tj : T} (di : Den n i ti) (dj : Den n j tj) : MetOK n s (m.add i j) (x.args.zip y.args ++ l) := by
  intro c d hm
  have hz : (x.args.zip y.args).length = x.args.length := by simp [hl]
  by_cases hc : c = i ∧ d = j
  · obtain ⟨rfl, rfl⟩ := hc
    refine ⟨(x.args.zip y.args).length, by simp, fun q hq => ?_, fun s' _ hh => ?_⟩
    · rw [List.take_left] at hq
      exact .arg gi (by obtain ⟨q1, q2⟩ := q; exact (List.of_mem_zip hq).1)
    · rw [List.take_left] at hh
      exact EqAt.node gi gj h0 he hl hh
  · have hm' : m c d = true := by simpa [Met.add, hc] using hm
    obtain ⟨k, hk, h1, h2⟩ := h c d hm'
    cases k with
    | zero => exact ⟨0, by omega, by simp, fun s' he _ => h2 s' he (by simp)⟩
    | succ k =>
      have hk' : k ≤ l.length := by simpa using hk
      refine ⟨(x.args.zip y.args).length + k, by simp only [List.length_append]; omega, fun q hq => ?_, fun s' he' hh => h2 s' he' (fun q hq => ?_)⟩
      · rw [List.take_length_add_append] at hq
        rcases List.mem_append.1 hq with hq | hq
        · have : Under n c i := Under.beh bi (h1 p (by simp [List.take_succ_cons]))
          exact .more this gi (by obtain ⟨q1, q2⟩ := q; exact (List.of_mem_zip hq).1)
        · exact h1 q (by simp [List.take_succ_cons, hq])
      · rw [List.take_length_add_append] at hh
        rw [List.take_succ_cons] at hq
        rcases List.mem_cons.1 hq with rfl | hq
        · exact EqAt.of_beh hn hr he' bi bj di dj (EqAt.node gi gj h0 he hl fun r hr => hh r (List.mem_append_left _ hr))
        · exact hh q (List.mem_append_right _ hq)

theorem RRun.exists_ : ∀ (c z : Nat) (n : List Nd) (s : Sub) (m : Met) (l : List (Nat × Nat)) (L : List (T × T)) (fs : List T), Net n → Rep n s → Fine s → MetOK n s m l → LowL L → PairsDen n l L → cnt s = c → Fulls s (L.map Prod.fst) fs → T.sizeL fs = z →
    ∃ q : Option (List Nd × Sub), RRun n s m l q ∧ Run s L (q.map (·.2)) ∧ ∀ n' s', q = some (n', s') → Like n n' ∧ Net n' ∧ Rep n' s' ∧ Fine s' := by
  intro c
  induction c using Nat.strongRecOn with
  | ind c ihc =>
  intro z
  induction z using Nat.strongRecOn with
  | ind z ihz =>
  intro n s m l L fs hn hr hs hm hl hd hc hf hz
  cases l with
  | nil =>
    have : L = [] := List.length_eq_zero_iff.1 (by rw [← hd.1]; rfl)
    subst this
    exact ⟨_, .nil, .nil, fun n' s' e => by cases e; exact ⟨Like.refl _, hn, hr, hs⟩⟩
  | cons p l =>
    obtain ⟨a, b, L', rfl, da, db, hd'⟩ := hd.cons_inv
    have hl' : LowL L' := fun p hp => hl p (by simp [hp])
    obtain ⟨la, lb⟩ := hl (a, b) (by simp)
    have len_of : ∀ {i : Nat} {t : T}, Den n i t → i < n.length := fun h => by cases h with | mk e _ _ => exact (List.getElem?_eq_some_iff.1 e).1
    obtain ⟨W⟩ := two_of hs.tot hn hr p (len_of da) (len_of db)
    obtain ⟨i, j, x, y, tx, ty, fx, fy, bi, bj, gi, gj, di, dj, hi, hj, wi, wj, fi, fj, oi, oj⟩ := W
    obtain ⟨t1, e1, w1, f1⟩ := wi
    obtain ⟨t2, e2, w2, f2⟩ := wj
    have := e1.det da; subst this
    have := e2.det db; subst this
    rw [List.map_cons] at hf
    obtain ⟨f, fs', rfl, hfa, hfs⟩ := hf.cons_inv
    simp only [T.sizeL] at hz
    have := T.size_pos f
    have skip : fx = fy → (i = j ∨ m i j = true) → (∀ s', Ext s s' → EqAt n s' p) → ∃ q : Option (List Nd × Sub), RRun n s m (p :: l) q ∧ Run s ((t1, t2) :: L') (q.map (·.2)) ∧ ∀ n' s', q = some (n', s') → Like n n' ∧ Net n' ∧ Rep n' s' ∧ Fine s' := fun e hij hE => by
      subst e
      obtain ⟨q, q1, q2, q3⟩ := ihz (T.sizeL fs') (by omega) n s m l L' fs' hn hr hs (hm.skip hE) hl' hd' hc hfs rfl
      exact ⟨q, .skip bi bj hij q1, Run.skip _ (Nat.le_refl _) f1 f2 q2, q3⟩
    by_cases hij : i = j
    · subst hij
      have := di.det dj; subst this
      exact skip (fi.det fj) (.inl rfl) fun s' he => EqAt.of_beh hn hr he bi bj di di EqAt.refl
    by_cases hmm : m i j = true
    · obtain ⟨k, hk, k1, k2⟩ := hm i j hmm
      cases k with
      | zero =>
        exact skip (k2 s (Ext.refl s) (by simp) tx ty fx fy di dj fi fj) (.inr hmm) fun s' he => EqAt.of_beh hn hr he bi bj di dj (k2 s' he (by simp))
      | succ k =>
        have : Under n i i := Under.beh bi (k1 p (by simp [List.take_succ_cons]))
        have := Under.size hs.tot hn hr this di fi di fi
        omega
    have hmf : m i j = false := by simpa using hmm
    -- which is bound
    have two : ∃ (a0 b0 : Nat) (X Y fY : T) (xn yn : Nd), At2 n i j a0 b0 xn yn ∧ sw tx ty = (X, Y) ∧ Den n a0 X ∧ Den n b0 Y ∧ X.head = xn.head ∧ Y.head = yn.head ∧ Full s Y fY ∧ xn.to < 0 ∧ a0 ≠ b0 ∧ (0 ≤ xn.head → a0 = i ∧ b0 = j ∧ xn = x ∧ yn = y ∧ X = tx ∧ Y = ty ∧ 0 ≤ yn.head) ∧ (∀ s', EqAt n s' (a0, b0) → EqAt n s' (i, j)) := by
      by_cases hsw : ty.head < 0 ∧ (0 ≤ tx.head ∨ ty.head < tx.head)
      · exact ⟨j, i, ty, tx, fx, y, x, ⟨.inr ⟨rfl, rfl, by omega⟩, gj, gi⟩, by simp [sw, hsw], dj, di, hj, hi, fi, oj, fun h => hij h.symm, fun h => by omega, fun s' h => h.symm⟩
      · exact ⟨i, j, tx, ty, fy, x, y, ⟨.inl ⟨rfl, rfl, by omega⟩, gi, gj⟩, by rw [sw, if_neg hsw], di, dj, hi, hj, fj, oi, hij, fun h => ⟨rfl, rfl, rfl, rfl, rfl, rfl, by omega⟩, fun s' h => h⟩
    obtain ⟨a0, b0, X, Y, fY, xn, yn, at2, hsw, dX, dY, hX, hY, hfY, oX, hab, hnn, hEE⟩ := two
    have hp : Pair2 s t1 t2 X Y := ⟨tx, ty, w1, w2, hsw⟩
    obtain ⟨lX, lY⟩ := hp.low hs.low la lb
    by_cases h0 : xn.head < 0
    · have hne : X.head ≠ Y.head := fun e => hab (hn.uniq a0 b0 xn yn at2.ga at2.gb h0 (by omega))
      by_cases hh : T.has (-1 - xn.head) fY = true
      · exact ⟨none, .occurs bi bj hij hmf at2 h0 dY hfY hh, .occurs hp (by omega) hne hfY (by rw [hX]; exact hh), fun _ _ e => by cases e⟩
      · have hh' : T.has (-1 - xn.head) fY = false := by simpa using hh
        have hfree := hr.free a0 xn at2.ga h0 oX
        have hs2 := hs.set hfree hfY hh' lY
        have hlt : -1 - xn.head < 256 := by rw [← hX]; rw [← hX] at h0; cases X; exact lX.var h0
        obtain ⟨gs, hgs⟩ := hs2.tot.fulls (L'.map Prod.fst)
        obtain ⟨nn, nr⟩ := Net.bind hn hr at2.ga h0 oX (len_of dY) dY
        have hE : ∀ s', Ext (s.set (-1 - xn.head) Y) s' → EqAt n s' p := fun s' he => by
          refine EqAt.of_beh hn hr ((Ext.set hfree).trans he) bi bj di dj (hEE s' ?_)
          intro ti tj f1' f2' d1 d2 g1 g2
          have := d1.det dX; subst this
          have := d2.det dY; subst this
          have hv : s' (-1 - xn.head) = some tj := he _ _ (by simp [Sub.set])
          rw [← hX] at hv h0
          cases g1 with
          | free _ h2 => simp only [T.head_mk] at hv; rw [hv] at h2; cases h2
          | bound _ h2 h3 => simp only [T.head_mk] at hv; rw [hv] at h2; cases h2; exact h3.det g2
          | node h2 => simp only [T.head_mk] at h0; omega
        obtain ⟨q, q1, q2, q3⟩ := ihc _ (by rw [← hc]; exact cnt_set (t := Y) (by omega) hlt hfree) (T.sizeL gs) (setTo n a0 b0) _ m l L' gs nn nr hs2 (hm.bind at2.ga oX hfree hE) hl' (hd'.like (Like.setTo n a0 b0)) rfl hgs rfl
        refine ⟨q, .bind bi bj hij hmf at2 h0 dY hfY hh' q1, .bind hp (by omega) hne hfY (by rw [hX]; exact hh') (by rw [hX]; exact q2), fun n' s' e => ?_⟩
        obtain ⟨r1, r2, r3, r4⟩ := q3 n' s' e
        exact ⟨(Like.setTo n a0 b0).trans r1, r2, r3, r4⟩
    · obtain ⟨rfl, rfl, rfl, rfl, rfl, rfl, h1⟩ := hnn (by omega)
      have hlx : X.args.length = xn.args.length := by cases dX with | @mk _ nd ts e l _ => rw [gi] at e; cases e; simp [l]
      have hly : Y.args.length = yn.args.length := by cases dY with | @mk _ nd ts e l _ => rw [gj] at e; cases e; simp [l]
      by_cases hN : xn.head = yn.head ∧ xn.args.length = yn.args.length
      · obtain ⟨wx, wy⟩ := hp.node_of (by omega)
        have e := hfa.det (wx.full fi)
        subst e
        have kden : PairsDen n (xn.args.zip yn.args ++ l) (X.args.zip Y.args ++ L') := by
          refine PairsDen.zip hlx.symm hly.symm hN.2 (fun k hk hk' => ?_) (fun k hk hk' => ?_) hd'
          · cases dX with | @mk _ nd ts e l kk => rw [gi] at e; cases e; exact kk k hk (by simpa using hk')
          · cases dY with | @mk _ nd ts e l kk => rw [gj] at e; cases e; exact kk k hk (by simpa using hk')
        obtain ⟨as', hfulls, hsize⟩ : ∃ as', Fulls s X.args as' ∧ T.sizeL as' < f.size := by
          cases fi with
          | free h1 => simp at hX; omega
          | bound h1 => simp at hX; omega
          | @node h as as' h1 hl1 hh => exact ⟨as', ⟨hl1, hh⟩, by simp [T.size]⟩
        have k : Fulls s ((X.args.zip Y.args ++ L').map Prod.fst) (as' ++ fs') := by
          rw [List.map_append, List.map_fst_zip (by omega)]
          exact Fulls.append hfulls hfs
        obtain ⟨q, q1, q2, q3⟩ := ihz (T.sizeL (as' ++ fs')) (by rw [T.sizeL_append]; omega) n s (m.add a0 b0) _ _ _ hn hr hs (MetOK.node hn hr hm bi bj gi gj (by omega) hN.1 hN.2 dX dY) (lowL_zip lX.args lY.args hl') kden hc k rfl
        exact ⟨q, .node bi bj hij hmf gi gj (by omega) h1 hN.1 hN.2 q1, .node hp (by omega) (by omega) (by omega) q2, q3⟩
      · refine ⟨none, .clash bi bj hij hmf gi gj (by omega) h1 ?_, .clash hp (by omega) ?_, fun _ _ e => by cases e⟩
        · by_cases k : xn.head = yn.head
          · exact .inr fun e => hN ⟨k, e⟩
          · exact .inl k
        · by_cases k : xn.head = yn.head
          · exact .inr fun e => hN ⟨k, by omega⟩
          · exact .inl (by omega)
end Go.Proofs.Ytokhnlhffnidmaa.Elen
