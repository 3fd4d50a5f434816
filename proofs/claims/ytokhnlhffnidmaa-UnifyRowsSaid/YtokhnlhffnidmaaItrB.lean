/- term's parts, one by one. -/
import Derived.Test.YtokhnlhffnidmaaItrA
import Derived.Test.YtokhnlhffnidmaaStk
import Derived.Test.YtokhnlhffnidmaaRefF
namespace Go.Proofs.Ytokhnlhffnidmaa
open Go.RowKit Go.Shelf Elen

/-- how deep, and a term -/
def encP (F : Nat → Prop) (p : T × Nat) (w : World) (args : Array Value) : Prop := ∃ (x y : Value), args = #[.int .i64 (p.2 : Int), .agg #[x, y]] ∧ IsF F w p.1 x y
theorem Try.infoPl : (Try.prog.info? 91).map (fun i => (i.zero, i.size, i.bytes)) = some (some (.agg #[.int .i64 0, .slice none 0 0, .int .i64 0]), 3, 40) := by kernel_rfl

/-- a mark among the calls put off -/
def mark (D : Nat) : Deferred := { target := .collected D, args := #[] }
/-- the marks' blocks hold nothing -/
def Marks : List Deferred → World → Prop
  | [], _ => True
  | d :: ds, w => (∃ D, d = mark D ∧ w.heap[D]? = some (.deferred (some [])) ∧ mark D ∉ ds) ∧ Marks ds w
theorem Marks.same {S : Nat → Prop} : ∀ {ds : List Deferred} {A B : World}, Marks ds A → SameOn S A B → (∀ D, mark D ∈ ds → S D) → Marks ds B
  | [], _, _, _, _, _ => trivial
  | d :: ds, A, B, ⟨⟨D, e, h, hn⟩, hs⟩, k, hS => ⟨⟨D, e, (k.block D (Array.getElem?_eq_some_iff.1 h).1 (hS D (by rw [e]; exact .head _))).trans h, hn⟩, hs.same k (fun D h => hS D (.tail _ h))⟩
theorem Marks.lt : ∀ {ds : List Deferred} {A : World}, Marks ds A → ∀ D, mark D ∈ ds → D < A.heap.size
  | d :: ds, A, ⟨⟨D, e, h, hn⟩, hs⟩, D', hm => by
    rcases List.mem_cons.1 hm with h' | h'
    · have : D' = D := by rw [e] at h'; unfold mark at h'; simpa using h'
      rw [this]; exact (Array.getElem?_eq_some_iff.1 h).1
    · exact hs.lt D' h'
theorem leaves_marks {P : Program} {fn : Func} {tmps : Array Value} {R : Ending → World → Prop} {v : Value} : ∀ {ds : List Deferred} {B : World}, Marks ds B →
    (∀ W, (∀ p : Addr, mark p.block ∉ ds → W.cell? p = B.cell? p) → (results fn tmps).run P W = .ok v W) → (∀ B', SameOn (fun k => mark k ∉ ds) B B' → R (.returned v) B') →
    LeavesInM Fence.wide 0 P fn tmps R ds .returning B
  | [], B, _, hres, hR => ⟨v, hres B (fun _ _ => rfl), hR B (SameOn.refl _ _)⟩
  | d :: ds, B, ⟨⟨D, e, h, hn⟩, hs⟩, hres, hR => by
    have hb : SameOn (fun k => k ≠ D) B (B.putObj D (.deferred none)) := ⟨rfl, rfl, rfl, by simp, fun k _ hk => World.putObj_heap_other hk⟩
    refine ⟨by simp, .inl ⟨D, _, by rw [e]; rfl, run_takeDeferred h, leaves_marks (hs.same hb (fun D' hm e => hn (e ▸ hm))) (fun W hW => hres W (fun p hp => ?_)) (fun B' hB' => hR B' ?_)⟩⟩
    · rw [e] at hp
      exact (hW p (fun h => hp (.tail _ h))).trans (World.cell?_of_block (World.putObj_heap_other (fun e => hp (by rw [e]; exact .head _))))
    · rw [e]
      exact (hb.mono (fun k hk e => hk (by rw [e]; exact .head _))).trans (hB'.mono fun k hk h => hk (.tail _ h))

/-- what holds at the head of a round of parts -/
structure PartsR (Fr F U : Nat → Prop) (W : World) (J : List (T × Nat) → (Nat → Prop) → World → Prop) (pre st : List (T × Nat)) (v : Value) (ds : List Deferred) (wr : World) : Prop where
  stack : wr.cell? ⟨W.heap.size + 1, 0, none⟩ = some v ∧ wr.frozen? ⟨W.heap.size + 1, 0, none⟩ = false ∧ Own KPl 91 Fr W.heap.size wr v st.reverse
  apart : v.ownBlock ≠ some (W.heap.size + 1)
  user : J pre U wr
  disj : ∀ k, F k → ¬ U k
  lt : ∀ k, U k → k < wr.heap.size
  mine : ¬ U (W.heap.size + 1) ∧ ∀ g, v.ownBlock = some g → ¬ U g
  same : SameOn F W wr
  marks : Marks ds wr
  marked : ∀ D, mark D ∈ ds → W.heap.size ≤ D ∧ ¬ U D ∧ D ≠ W.heap.size + 1 ∧ v.ownBlock ≠ some D

/-- what holds between two rounds of the loop that pushes a term's arguments -/
structure PartI (Fr F' : Nat → Prop) (n0 : Nat) (B1 : World) (sb g : Nat) (rest : List (T × Nat)) (d : Nat) (pre : List T) (V : Nat → Prop) (A : World) : Prop where
  same : SameOn F' B1 A
  vsb : V sb
  vs : ∀ k, V k → k = sb ∨ k = g ∨ B1.heap.size ≤ k
  stack : ∃ v, A.cell? ⟨sb, 0, none⟩ = some v ∧ A.frozen? ⟨sb, 0, none⟩ = false ∧ Own KPl 91 Fr n0 A v (rest.reverse ++ pre.map fun a => (a, d + 1)) ∧ v.ownBlock ≠ some sb ∧ ∀ k, v.ownBlock = some k → V k
theorem PartI.move {Fr F' : Nat → Prop} {n0 : Nat} {B1 : World} {sb g : Nat} {rest : List (T × Nat)} {d : Nat} {pre : List T} {V : Nat → Prop} {A B : World} (h : PartI Fr F' n0 B1 sb g rest d pre V A) (hF : ∀ k, Fr k → F' k) (hk : SameOn (fun k => V k ∨ F' k) A B) : PartI Fr F' n0 B1 sb g rest d pre V B where
  same := h.same.trans (hk.mono fun _ h => .inr h)
  vsb := h.vsb
  vs := h.vs
  stack := by
    obtain ⟨v, h1, h2, h3, h4, h5⟩ := h.stack
    exact ⟨v, hk.cell (.inl h.vsb) h1, (World.frozen?_of_block (a := ⟨sb, 0, none⟩) (hk.block sb (World.block_lt_of_cell? A _ h1) (.inl h.vsb))).trans h2, h3.same hk (fun b hb => .inr (hF b hb)) (fun g hg => .inl (h5 g hg)), h4, h5⟩

set_option maxRecDepth 100000 in
set_option maxHeartbeats 1000000 in
theorem parts1_seq (Fr Fq : Nat → Prop) (hFq : ∀ k, Fr k → Fq k) (t : T) (x y : Value) (bb : Nat) (W0 : World) (ht : IsF Fr W0 t x y) (hb : W0.cell? ⟨bb, 0, none⟩ = some x) (hb' : W0.cell? ⟨bb, 1, none⟩ = some y) (_hFb : Fq bb) (hsz : t.size ≤ 1000000000) :
    SeqAll Try.prog 44 #[.pointer (some ⟨bb, 0, none⟩)] (encP Fr) Fq t.parts W0 := by
  intro ly J F W hW hFr' hFW hJ hY U0 h0 hU0 hUW
  have hFr : ∀ k, Fr k → F k := fun k hk => hFr' k (hFq k hk)
  clear hFr'
  have hl1 := ht.later hW
  have hb1 := cell_kept hW hb
  have hb2 := cell_kept hW hb'
  clear ht hb hb' hW
  obtain ⟨rfl, hi, -⟩ := hl1.parts
  have HL := Lib.hid hl1
  have HJ := Lib.hid hJ
  have HY := Lib.hid hY
  have H0 := Lib.hid h0
  have HFr := Lib.hid hFr
  have HU0 := Lib.hid hU0
  have HUW := Lib.hid hUW
  have HFW := Lib.hid hFW
  clear hl1 hJ hY h0 hFr hU0 hUW hFW
  refine calls_marks Try.func44 rfl ?_
  simp only [Try.ntmps44, List.size_toArray, List.length_cons, List.length_nil, Nat.reduceAdd, Nat.reduceSub, Array.replicate_succ, Array.replicate_zero, List.push_toArray, List.append_toArray, List.nil_append, List.cons_append]
  go_wp2_with fail
  refine wp_loop_ghost_k (fun k a wr => ∃ (u4 u10 u11 u12 u13 u14 u15 u16 u17 u18 u19 u20 u21 u22 u23 u24 u25 u26 u27 u28 u29 u30 u31 u32 u33 u34 : Value) (ds : List Deferred), (∃ (st pre : List (T × Nat)) (U : Nat → Prop) (v : Value), (flat st).length + 1 = k ∧ pre ++ flat st = t.parts ∧ PartsR Fr F U W J pre st v ds wr) ∧ a = { tmps := #[.func (.yield ly) #[] #[], .pointer (some ⟨bb, 0, none⟩), undef, .pointer (some ⟨W.heap.size + 1, 0, none⟩), u4, undef, undef, .agg #[.int .i64 t.head, y], .agg #[.int .i64 t.head, y, .int .i64 1], .slice (some ⟨W.heap.size, 0, none⟩) 1 1, u10, u11, u12, u13, u14, u15, u16, u17, u18, u19, u20, u21, u22, u23, u24, u25, u26, u27, u28, u29, u30, u31, u32, u33, u34, undef, undef, undef, undef, undef, undef, undef, undef, undef, undef], defers := ds }) (t.size + 1) ?start ?round
  case start =>
    refine ⟨_, _, _, _, _, _, _, _, _, _, _, _, _, _, _, _, _, _, _, _, _, _, _, _, _, _, [], ⟨[(t, 1)], [], U0, .slice (some ⟨W.heap.size, 0, none⟩) 1 1, ?_, ?_, ?_⟩, rfl⟩
    · rw [flat_one, T.pts_length]
    · rw [flat_one]; rfl
    · have hb0 : Below W.heap.size W ((W.alloc (.cells #[.int .i64 t.head, y, .int .i64 1] 91)).alloc (.cells #[.slice (some ⟨W.heap.size, 0, none⟩) 1 1] 92)) := ((Below.refl _ _).alloc (Nat.le_refl _) _).alloc (by simp) _
      have ho : Own KPl 91 Fr W.heap.size (W.alloc (.cells #[.int .i64 t.head, y, .int .i64 1] 91)) (.slice (some ⟨W.heap.size, 0, none⟩) 1 1) [(t, 1)] :=
        Own.one (K := KPl) (ys := [.int .i64 t.head, y, .int .i64 1]) ⟨_, _, rfl, HL.out⟩ (fun b hb => HFW.out b (HFr.out b hb)) _ (Nat.le_refl _) (by decide)
      refine ⟨⟨?_, ?_, ho.later ((Below.refl _ _).alloc (Nat.le_refl _) _)⟩, ?_, HJ.out _ _ _ _ H0.out (.of_new hb0), HU0.out, fun k h => ?_, ⟨fun h => ?_, fun g e h => ?_⟩, .of_new hb0, trivial, fun D h => by cases h⟩
      · have := cell_new (W.alloc (.cells #[.int .i64 t.head, y, .int .i64 1] 91)) #[.slice (some ⟨W.heap.size, 0, none⟩) 1 1] 92 0 rfl
        rwa [World.size_alloc] at this
      · have := frozen_of_block (World.alloc_heap_new (W.alloc (.cells #[.int .i64 t.head, y, .int .i64 1] 91)) (.cells #[.slice (some ⟨W.heap.size, 0, none⟩) 1 1] 92)) 0
        rwa [World.size_alloc] at this
      · simp only [Value.ownBlock, ne_eq, Option.some.injEq]; omega
      · have := HUW.out k h; simp; omega
      · have := HUW.out _ h; omega
      · have e : W.heap.size = g := by simpa [Value.ownBlock] using e
        have := HUW.out _ h; omega
  case round =>
    intro gk a wr hinv
    obtain ⟨u4, u10, u11, u12, u13, u14, u15, u16, u17, u18, u19, u20, u21, u22, u23, u24, u25, u26, u27, u28, u29, u30, u31, u32, u33, u34, ds, ⟨st, pre, U, v, hgk, hpre, hR⟩, rfl⟩ := hinv
    intro J' K' hJ' hK'
    dsimp only
    have HR := Lib.hid hR
    have HP := Lib.hid hpre
    have HG := Lib.hid hgk
    cases st with
    | nil =>
      obtain ⟨hc, hf, ho⟩ := hR.stack
      obtain ⟨A, c, rfl⟩ := ho.shape
      clear hR hpre hgk
      have hn : ([] : List (T × Nat)).reverse.length = 0 := rfl
      rw [hn] at hc
      clear hn ho
      go_wp2
      refine leaves_marks HR.out.marks (fun W' _ => results_none rfl _ _ _) (fun B' hB => ⟨⟨_, rfl⟩, U, ?_⟩)
      have he : pre = t.parts := by have := HP.out; rwa [flat_nil, List.append_nil] at this
      subst he
      refine HJ.out _ _ _ _ HR.out.user (hB.mono fun k hk hm => ?_)
      have := HR.out.marked k hm
      rcases hk with hk | hk
      · exact this.2.1 hk
      · have := HFW.out k hk; omega
    | cons p rest =>
      obtain ⟨t1, d⟩ := p
      obtain ⟨hc, hf, ho⟩ := hR.stack
      rw [List.reverse_cons] at ho
      obtain ⟨A, c, rfl⟩ := ho.shape
      obtain ⟨g, vs, hn, rfl, hnc, hg1, hg2, ⟨x1, y1, rfl, hx1⟩, hcs⟩ := ho.top
      have kc0 := hcs 0 (by simp)
      have kc1 := hcs 1 (by simp)
      have kc2 := hcs 2 (by simp)
      obtain ⟨rfl, hi1, hs1⟩ := hx1.parts
      obtain ⟨A1, c1, rfl, -, -⟩ := hs1.shapeT
      have e3 : (KPl).sz = 3 := rfl
      rw [e3] at kc0 kc1 kc2
      simp only [List.getElem_cons_zero, List.getElem_cons_succ, Nat.add_zero, List.length_reverse] at kc0 kc1 kc2
      have hlen : (rest.reverse ++ [(t1, d)]).length = rest.length + 1 := by simp
      rw [hlen] at hc hnc ho
      have HPOP : Hid (Own KPl 91 Fr W.heap.size wr (.slice (some ⟨g, 0, none⟩) rest.length c) rest.reverse) := by
        have := ho.pop; rwa [List.length_reverse] at this
      have HX1 := Lib.hid hx1
      have hap := hR.apart
      simp only [Value.ownBlock, ne_eq, Option.some.injEq] at hap
      have hgs : W.heap.size + 1 < wr.heap.size := World.block_lt_of_cell? wr _ hc
      clear hcs hn hlen hx1 hs1 ho hR hpre hgk e3
      have hsum : (flat ((t1, d) :: rest)).length ≤ t.size := by
        have := congrArg List.length HP.out
        rw [List.length_append] at this
        unfold T.parts at this
        rw [T.pts_length] at this
        omega
      have hrl : t1.args.length + rest.length ≤ 1000000000 := by
        have := flat_len (t1.args.map (fun a => (a, d + 1)) ++ rest)
        rw [flat_cons] at hsum
        simp only [List.length_cons, List.length_append, List.length_map] at this hsum
        omega
      have hd0 : d ≤ 1000000000 := by
        have : (t1, d) ∈ t.parts := by rw [← HP.out, flat_cons]; simp
        have := T.parts_le this
        simp only at this
        omega
      clear hsum
      go_upto_region 4 with fail
      obtain ⟨sb, hsb⟩ : ∃ sb, W.heap.size + 1 = sb := ⟨_, rfl⟩
      rw [hsb] at hc hf hap hgs ⊢
      have h3s : SameOn (fun k => k ≠ sb) wr ((wr.setCell ⟨sb, 0, none⟩ (.slice (some ⟨g, 0, none⟩) rest.length c)).alloc (.cells #[.int .i64 t1.head, .slice A1 t1.args.length c1, .int .i64 d] 91)) :=
        (SameOn.set _ _ _ (by simp)).trans (.of_new ((Below.refl _ _).alloc (Nat.le_refl _) _))
      have h3c : ((wr.setCell ⟨sb, 0, none⟩ (.slice (some ⟨g, 0, none⟩) rest.length c)).alloc (.cells #[.int .i64 t1.head, .slice A1 t1.args.length c1, .int .i64 d] 91)).cell? ⟨sb, 0, none⟩ = some (.slice (some ⟨g, 0, none⟩) rest.length c) :=
        cell_old _ (World.cell?_setCell_same' _ _ _ (by rw [hc]; rfl))
      have h3f : ((wr.setCell ⟨sb, 0, none⟩ (.slice (some ⟨g, 0, none⟩) rest.length c)).alloc (.cells #[.int .i64 t1.head, .slice A1 t1.args.length c1, .int .i64 d] 91)).frozen? ⟨sb, 0, none⟩ = false := by
        rw [World.frozen?_of_block (a := ⟨sb, 0, none⟩) (Below.heap_alloc _ _ _ (by simpa [World.setCell] using hgs)), World.frozen?_setCell]; exact hf
      have h3n : ((wr.setCell ⟨sb, 0, none⟩ (.slice (some ⟨g, 0, none⟩) rest.length c)).alloc (.cells #[.int .i64 t1.head, .slice A1 t1.args.length c1, .int .i64 d] 91)).heap[wr.heap.size]? = some (.cells #[.int .i64 t1.head, .slice A1 t1.args.length c1, .int .i64 d] 91) := by
        have := World.alloc_heap_new (wr.setCell ⟨sb, 0, none⟩ (.slice (some ⟨g, 0, none⟩) rest.length c)) (.cells #[.int .i64 t1.head, .slice A1 t1.args.length c1, .int .i64 d] 91)
        have e : (wr.setCell ⟨sb, 0, none⟩ (.slice (some ⟨g, 0, none⟩) rest.length c)).heap.size = wr.heap.size := by simp [World.setCell]
        rwa [e] at this
      have h3z : ((wr.setCell ⟨sb, 0, none⟩ (.slice (some ⟨g, 0, none⟩) rest.length c)).alloc (.cells #[.int .i64 t1.head, .slice A1 t1.args.length c1, .int .i64 d] 91)).heap.size = wr.heap.size + 1 := by simp [World.setCell]
      generalize ((wr.setCell ⟨sb, 0, none⟩ (.slice (some ⟨g, 0, none⟩) rest.length c)).alloc (.cells #[.int .i64 t1.head, .slice A1 t1.args.length c1, .int .i64 d] 91)) = W3 at *
      have HOWN := Lib.hid (HPOP.out.same h3s (fun b hb => by have := HFW.out b (HFr.out b hb); omega) (fun k e => by simp only [Value.ownBlock, Option.some.injEq] at e; omega))
      have k40 := cell_of_block h3n (j := 0) (v := .int .i64 t1.head) rfl
      have k41 := cell_of_block h3n (j := 1) (v := .slice A1 t1.args.length c1) rfl
      have k42 := cell_of_block h3n (j := 2) (v := .int .i64 (d : Int)) rfl
      have HSB := Lib.hid hsb
      have H3S := Lib.hid h3s
      have H3F := Lib.hid h3f
      have H3C := Lib.hid h3c
      have H3Z := Lib.hid h3z
      clear HPOP hc hf kc0 kc1 kc2 hb1 hb2 h3n hsb h3s h3f h3c h3z
      have hx3 : IsF Fr W3 t1 (.int .i64 t1.head) (.slice A1 t1.args.length c1) := IsF.mono (fun _ h => h.1) (HX1.out.same H3S.out (fun b hb => by have := HFW.out b (HFr.out b hb.1); have := HSB.out; omega))
      have huser : J pre U W3 := HJ.out _ _ _ _ HR.out.user (H3S.out.mono fun k hk => by
        rintro rfl
        rcases hk with hk | hk
        · have := HR.out.mine.1; rw [HSB.out] at this; exact this hk
        · have := HFW.out _ hk; have := HSB.out; omega)
      obtain ⟨fn, tmps, assign, body, hy, hYR⟩ := yield_in (HY.out pre (t1, d) #[.int .i64 (d : Int), .agg #[.int .i64 t1.head, .slice A1 t1.args.length c1]] W3 U huser HR.out.disj (fun k hk => by have := HR.out.lt k hk; rw [H3Z.out]; omega) (by rw [← HP.out, flat_cons]; exact ⟨flat (t1.args.map (fun a => (a, d + 1)) ++ rest), by simp only [List.append_assoc, List.cons_append, List.nil_append]⟩) ⟨_, _, rfl, hx3⟩) 0
      have HYR := Lib.hid hYR
      have HX3 := Lib.hid hx3
      have hnU : ¬ U wr.heap.size := fun h => by have := HR.out.lt _ h; omega
      have HNU := Lib.hid hnU
      clear hYR hx3 huser hnU
      refine wp_region_wide ?_
      gi_wp2
      refine HYR.out.mono ?_
      rintro e B ⟨rfl, U', hJ2, hs1, hs2, hs3⟩
      have kb0 := hs1.cell (p := ⟨wr.heap.size, 0, none⟩) HNU.out k40
      have kb1 := hs1.cell (p := ⟨wr.heap.size, 1, none⟩) HNU.out k41
      have kb2 := hs1.cell (p := ⟨wr.heap.size, 2, none⟩) HNU.out k42
      have hsbU : ¬ U sb := by have := HR.out.mine.1; rwa [HSB.out] at this
      have hgU : ¬ U g := HR.out.mine.2 g rfl
      have kbs := hs1.cell (p := ⟨sb, 0, none⟩) hsbU H3C.out
      have kbf := (World.frozen?_of_block (a := ⟨sb, 0, none⟩) (hs1.block sb (by rw [H3Z.out]; omega) hsbU)).trans H3F.out
      have hob := HOWN.out.same hs1 (fun b hb => HR.out.disj b (HFr.out b hb)) (fun k e => by simp only [Value.ownBlock, Option.some.injEq] at e; rw [← e]; exact hgU)
      have hxb := HX3.out.same hs1 (fun b hb => HR.out.disj b (HFr.out b hb))
      have hbz := hs1.size
      rw [H3Z.out] at hbz
      have HJ2 := Lib.hid hJ2
      have HS1 := Lib.hid hs1
      have HS2 := Lib.hid hs2
      have HS3 := Lib.hid hs3
      have HKS := Lib.hid kbs
      have HKF := Lib.hid kbf
      have HOB := Lib.hid hob
      have HXB := Lib.hid hxb
      clear hy k40 k41 k42 hJ2 hs1 hs2 hs3 kbs kbf hob hxb
      gi_wp2
      go_wp2_with fail
      refine (backward_calls Fr t1.args _ _ HXB.out.parts.2.2).mono ?_
      rintro e B1 ⟨rfl, hB1⟩
      have hbb : Below B.heap.size B B1 := by rw [hB1]; exact (Below.refl _ _).alloc (Nat.le_refl _) _
      have hbz1 : B1.heap.size = B.heap.size + 1 := by rw [hB1]; simp
      have hbc : B1.cell? ⟨B.heap.size, 0, none⟩ = some (.slice A1 t1.args.length c1) := by rw [hB1]; exact cell_new _ _ _ _ rfl
      clear hB1
      have hsl1 := HXB.out.parts.2.2.later hbb
      have HBB := Lib.hid hbb
      have HBC := Lib.hid hbc
      have HSL1 := Lib.hid hsl1
      have HBZ1 := Lib.hid hbz1
      have HK42 := Lib.hid (cell_kept hbb kb2)
      clear kb0 kb1 kb2 hbb hbc hsl1 hbz1
      go_upto_block 2 with fail
      refine wp_block ?_
      have hFF : ∀ k, Fr k → k < B1.heap.size ∧ k ≠ sb ∧ k ≠ g := fun k hk => by
        have := HFW.out k (HFr.out k hk); have := HSB.out; have := HBZ1.out; omega
      have HFF := Lib.hid hFF
      refine wp_rangeAll (gf := 53) (lb := #[.pointer (some ⟨B.heap.size, 0, none⟩)]) (enc := encT Fr) (Fr := fun k => Fr k ∨ k = B.heap.size) (F := fun k => k < B1.heap.size ∧ k ≠ sb ∧ k ≠ g) (xs := t1.args.reverse) rfl
        (enters_of Try.func53 (by kernel_rfl) rfl) (backward1_seq Fr _ (fun _ h => .inl h) t1.args _ B.heap.size B1 HSL1.out HBC.out (.inr rfl)) (fun x W args h => by obtain ⟨_, _, _, rfl, _⟩ := h; rfl)
        (fun k hk => ?fr) (fun k hk => hk.1) (PartI Fr (fun k => k < B1.heap.size ∧ k ≠ sb ∧ k ≠ g) W.heap.size B1 sb g rest d) (fun pre V A B h hk => h.move HFF.out hk) (fun k => k = sb ∨ k = g) ?h0 (fun k hk h => by omega) (fun k h => ?v0) ?hround ?hdone
      case fr =>
        rcases hk with hk | rfl
        · exact HFF.out k hk
        · have := HBZ1.out; omega
      case v0 => have := HBZ1.out; omega
      case h0 =>
        refine ⟨SameOn.refl _ _, .inl rfl, fun k h => by omega, .slice (some ⟨g, 0, none⟩) rest.length c, cell_kept HBB.out HKS.out, (World.frozen?_of_block (a := ⟨sb, 0, none⟩) (HBB.out.block sb (by omega))).trans HKF.out, ?_, ?_, fun k h => ?_⟩
        · have := HOB.out.later HBB.out; simpa using this
        · simp only [Value.ownBlock, ne_eq, Option.some.injEq]; exact hap
        · simp only [Value.ownBlock, Option.some.injEq] at h; exact .inr h.symm
      case hround =>
        intro l pre2 x args A V hl hlA hBA hI hFV hVl hVA henc hpre2
        obtain ⟨ix, x2, y2, rfl, hx2⟩ := henc
        have HIP := Lib.hid hI
        have HX2 := Lib.hid hx2
        have HFV := Lib.hid hFV
        have HVA := Lib.hid hVA
        have HPRE2 := Lib.hid hpre2
        clear hI hx2 hFV hVA hpre2
        obtain ⟨rfl, hi2, hs2⟩ := HX2.out.parts
        obtain ⟨A2, c2, rfl, -, -⟩ := hs2.shapeT
        clear hs2
        refine region_in then_out rfl ?_
        simp only [List.zip_toArray, List.zip_cons_cons, List.zip_nil_right, List.foldl_toArray', List.foldl_cons, List.foldl_nil, List.setIfInBounds_toArray, List.set_cons_succ, List.set_cons_zero]
        go_wp2
        refine ⟨(Below.refl _ _).alloc (Nat.le_refl _) _, fun A3 hg3 hz3 hc3 => ?_⟩
        have hs3 : SameOn (fun k => k ≠ l) A A3 := (SameOn.of_new ((Below.refl _ _).alloc (Nat.le_refl _) _)).trans (.of_grown hg3 (fun k e h => by cases e; exact h rfl))
        have ka0 : A3.cell? ⟨A.heap.size, 0, none⟩ = some (.int .i64 x.head) := (hc3 _ (by simp only; omega)).trans (cell_new _ _ _ _ rfl)
        have ka1 : A3.cell? ⟨A.heap.size, 1, none⟩ = some (.slice A2 x.args.length c2) := (hc3 _ (by simp only; omega)).trans (cell_new _ _ _ _ rfl)
        have hz3' : A3.heap.size = A.heap.size + 1 := by rw [hz3]; simp
        clear hc3 hg3 hz3
        obtain ⟨v, i1, i2, i3, i4, i5⟩ := HIP.out.stack
        have hvl' : V sb := HIP.out.vsb
        have hlsb : sb ≠ l := fun e => hVl (e ▸ hvl')
        have k3s := hs3.cell (p := ⟨sb, 0, none⟩) hlsb i1
        have k3f := (World.frozen?_of_block (a := ⟨sb, 0, none⟩) (hs3.block sb (World.block_lt_of_cell? A _ i1) hlsb)).trans i2
        have k3d := hs3.cell (p := ⟨wr.heap.size, 2, none⟩) (by show wr.heap.size ≠ l; have := HBZ1.out; omega) (HIP.out.same.cell (p := ⟨wr.heap.size, 2, none⟩) ⟨by have := HBZ1.out; show wr.heap.size < _; omega, by show wr.heap.size ≠ sb; omega, by show wr.heap.size ≠ g; omega⟩ HK42.out)
        have hFl : ∀ k, Fr k → k ≠ l := fun k hk => by have := HFF.out k hk; omega
        have i3' := i3.same hs3 hFl (fun k e h => hVl (h ▸ i5 k e))
        obtain ⟨Av, cv, rfl⟩ := i3.shape
        have hpl : pre2.length + 1 ≤ t1.args.length := by
          have := HPRE2.out.length_le
          simpa using this
        have hxs : (rest.reverse ++ pre2.map fun a => (a, d + 1)).length = rest.length + pre2.length := by simp
        generalize hXS : (rest.reverse ++ pre2.map fun a => (a, d + 1)) = xs at *
        generalize hnx : xs.length = nx at *
        have HXS := Lib.hid hXS
        have HI3 := Lib.hid i3'
        have HI4 := Lib.hid i4
        have HI5 := Lib.hid i5
        have HNX := Lib.hid hnx
        have HS3' := Lib.hid hs3
        have hnx' : nx ≤ 1000000000 := by omega
        clear i1 i2 i3 i4 i5 i3' hXS hs3 hxs
        refine wpIn_block ?_
        refine region_in (inBlock_out _ (roundGoes_out _)) rfl ?_
        have hrow : Row KPl Fr (A3.alloc (.cells #[.int .i64 x.head, .slice A2 x.args.length c2, .int .i64 ((d : Int) + 1)] 91)) [(x, d + 1)] A3.heap.size 0 := by
          have hx3 : IsF Fr A3 x (.int .i64 x.head) (.slice A2 x.args.length c2) := HX2.out.same HS3'.out (fun k hk => hFl k hk)
          exact row_of_block (K := KPl) ⟨_, _, rfl, hx3⟩ _
        have hO1 := HI3.out.later (w1 := A3.alloc (.cells #[.int .i64 x.head, .slice A2 x.args.length c2, .int .i64 ((d : Int) + 1)] 91)) ((Below.refl _ _).alloc (Nat.le_refl _) _)
        have HROW := Lib.hid hrow
        have HO1 := Lib.hid hO1
        have HZ3 := Lib.hid hz3'
        have HFl := Lib.hid hFl
        have hob' : ∀ k, Fr k → k < (A3.alloc (.cells #[.int .i64 x.head, .slice A2 x.args.length c2, .int .i64 ((d : Int) + 1)] 91)).heap.size → Fr k ∧ some k ≠ (Value.slice Av nx cv).ownBlock := fun k hk _ => by
          refine ⟨hk, fun e => ?_⟩
          have h1 := (HI3.out.block k e.symm).1
          have h2 := HFW.out k (HFr.out k hk)
          omega
        have HOB' := Lib.hid hob'
        clear hrow hO1 hnx hz3' hFl hob'
        go_wp2_with (at_builtin; refine wp_append (K := KPl) (F := Fr) (F1 := Fr) W.heap.size rfl (.tmp 37) (.tmp 43) 92 91 (.agg #[.int .i64 0, .slice none 0 0, .int .i64 0]) rfl Try.underlying92 Try.infoPl rfl (.slice Av nx cv) xs [(x, d + 1)] rfl A3.heap.size 0 1 rfl HO1.out HROW.out HOB'.out (by have e : (KPl).by_ = 40 := rfl; rw [e, HNX.out]; simp only [List.length_cons, List.length_nil]; omega) (by have := HZ3.out; have := HBZ1.out; simp; omega) ?_; intro v4 w4 hO4 hg4 hat4 hsh4; obtain ⟨g4, c4, rfl⟩ := hsh4 (by simp); obtain ⟨k4s, k4f⟩ := kept_over (p := ⟨sb, 0, none⟩) k3s hg4 HI4.out; rw [k3f] at k4f; have HO4 := Lib.hid hO4; have HG4 := Lib.hid hg4; have HAT4 := Lib.hid hat4; clear hO4 hg4 hat4 hsh4)
        have hat := HAT4.out
        simp only [Value.ownBlock.eq_1, World.size_alloc, Option.some.injEq] at hat
        have hI5 := HI5.out
        have hg4w := (HO4.out.block g4 rfl).2
        have hz4 := HG4.out.size
        simp only [World.size_alloc] at hz4
        have hsbA : sb < A3.heap.size := World.block_lt_of_cell? A3 _ k3s
        generalize hob : (Value.slice Av nx cv).ownBlock = ob at *
        have hI4 := HI4.out
        have hvs : ∀ k, ob = some k → k ≠ sb ∧ (k = g ∨ B1.heap.size ≤ k) := fun k e => by
          have h1 : k ≠ sb := fun h => hI4 (by rw [e, h])
          rcases HIP.out.vs k (hI5 k e) with h | h
          · exact absurd h h1
          · exact ⟨h1, h⟩
        have hg4 : g4 ≠ sb ∧ (g4 = g ∨ B1.heap.size ≤ g4) ∧ (V g4 ∨ A.heap.size ≤ g4) := by
          have := HZ3.out
          rcases hat with h | h
          · exact ⟨(hvs g4 h.symm).1, (hvs g4 h.symm).2, .inl (hI5 g4 h.symm)⟩
          · exact ⟨by omega, .inr (by omega), .inr (by omega)⟩
        have hs5 : SameOn (fun k => k ≠ sb ∧ ob ≠ some k) A3 (w4.setCell ⟨sb, 0, none⟩ (.slice (some ⟨g4, 0, none⟩) (xs.length + 1) c4)) :=
          (SameOn.of_new ((Below.refl _ _).alloc (Nat.le_refl _) _)).trans ((SameOn.of_grown HG4.out (fun k e h => h.2 e)).trans (SameOn.set _ _ _ (fun h => h.1 rfl)))
        refine ⟨fun k => k = sb ∨ k = g4, ⟨?_, .inl rfl, fun k h => ?_, .slice (some ⟨g4, 0, none⟩) (xs.length + 1) c4, World.cell?_setCell_same' _ _ _ (by rw [k4s]; rfl), by rw [World.frozen?_setCell]; exact k4f, ?_, ?_, fun k e => ?_⟩, hs5.mono fun k hk => ⟨fun e => hk.1 (e ▸ hvl'), fun e => hk.1 (hI5 k e)⟩, fun k h => ?_, fun k h => ?_⟩
        · refine HIP.out.same.trans ((HS3'.out.mono fun k hk => ?_).trans (hs5.mono fun k hk => ⟨hk.2.1, fun e => ?_⟩))
          · have := hk.1; omega
          · have := hvs k e; have := hk.1; have := hk.2.2; omega
        · rcases h with h | h
          · exact .inl h
          · subst h; exact .inr hg4.2.1
        · have e : rest.reverse ++ (pre2 ++ [x]).map (fun a => (a, d + 1)) = xs ++ [(x, d + 1)] := by rw [← HXS.out]; simp
          rw [e]
          exact HO4.out.same (S := fun k => k ≠ sb) (SameOn.set _ _ _ (fun h => h rfl)) (fun b hb => (HFF.out b hb).2.1) (fun k e => by simp only [Value.ownBlock, Option.some.injEq] at e; rw [← e]; exact hg4.1)
        · simp only [Value.ownBlock, ne_eq, Option.some.injEq]; exact hg4.1
        · simp only [Value.ownBlock, Option.some.injEq] at e; exact .inr e.symm
        · rcases h with h | h
          · subst h; exact .inl hvl'
          · subst h; exact hg4.2.2
        · have hz5 : (w4.setCell ⟨sb, 0, none⟩ (.slice (some ⟨g4, 0, none⟩) (xs.length + 1) c4)).heap.size = w4.heap.size := by simp [World.setCell]
          rw [hz5]
          rcases h with h | h
          · omega
          · omega
      case hdone =>
        intro D B2 V hD hI hVD hdef
        dsimp only
        have hsb := HSB.out
        subst hsb
        show K' _ _
        refine hK' _ _ (Handed.intro ((flat (t1.args.map (fun a => (a, d + 1)) ++ rest)).length + 1) ?_ (hJ' _ _ _ ?_))
        · rw [← HG.out, flat_cons]; simp
        refine ⟨_, _, _, _, _, _, _, _, _, _, _, _, _, _, _, _, _, _, _, _, _, _, _, _, _, _, mark D :: ds, ⟨t1.args.map (fun a => (a, d + 1)) ++ rest, pre ++ [(t1, d)], U', ?_⟩, rfl⟩
        obtain ⟨v, i1, i2, i3, i4, i5⟩ := hI.stack
        have hB1z := HBZ1.out
        have hUV : ∀ k, U' k → k < B1.heap.size ∧ k ≠ W.heap.size + 1 ∧ k ≠ g := fun k hk => by
          have h1 := HS3.out k hk
          refine ⟨by omega, fun e => ?_, fun e => ?_⟩
          · rcases HS2.out k hk with h | h
            · exact hsbU (e ▸ h)
            · rw [H3Z.out] at h; omega
          · rcases HS2.out k hk with h | h
            · exact hgU (e ▸ h)
            · rw [H3Z.out] at h; omega
        have hsame : SameOn (fun k => k < B1.heap.size ∧ k ≠ W.heap.size + 1 ∧ k ≠ g) B B2 := ⟨hI.same.os.trans HBB.out.os, hI.same.tape.trans HBB.out.tape, hI.same.output.trans HBB.out.output, Nat.le_trans HBB.out.size hI.same.size, fun k hk hk' => (hI.same.block k (by omega) hk').trans (HBB.out.block k hk)⟩
        have hmk : ∀ D', mark D' ∈ ds → D' < wr.heap.size ∧ D' ≠ W.heap.size + 1 ∧ D' ≠ g := fun D' h => by
          obtain ⟨m1, m2, m3, m4⟩ := HR.out.marked D' h
          refine ⟨HR.out.marks.lt D' h, m3, fun e => m4 (by rw [e]; rfl)⟩
        have hown : ∀ k, v.ownBlock = some k → k = g ∨ B1.heap.size ≤ k := fun k e => by
          rcases hI.vs k (i5 k e) with h | h | h
          · exact absurd (h ▸ e) i4
          · exact .inl h
          · exact .inr h
        refine ⟨v, rfl, ?_, ?_⟩
        · rw [List.append_assoc, List.singleton_append, ← flat_cons]; exact HP.out
        rw [List.map_reverse] at i3
        refine ⟨⟨i1, i2, by rw [List.reverse_append]; exact i3⟩, i4, HJ.out _ _ _ _ HJ2.out (hsame.mono fun k hk => ?_), fun k hk h => ?_, fun k h => ?_, ⟨fun h => ?_, fun k e h => ?_⟩, ?_, ⟨⟨D, rfl, hdef, fun h => ?_⟩, ?_⟩, fun D' h => ?_⟩
        · rcases hk with hk | hk
          · exact hUV k hk
          · have := HFW.out k hk; omega
        · rcases HS2.out k h with h' | h'
          · exact HR.out.disj k hk h'
          · have := HFW.out k hk; rw [H3Z.out] at h'; omega
        · have := (hUV k h).1; have := hI.same.size; omega
        · exact (hUV _ h).2.1 rfl
        · rcases hown k e with h' | h'
          · exact (hUV k h).2.2 h'
          · have := (hUV k h).1; omega
        · refine HR.out.same.trans ((H3S.out.mono fun k hk => ?_).trans ((HS1.out.mono fun k hk => HR.out.disj k hk).trans (hsame.mono fun k hk => ?_)))
          · have := HFW.out k hk; omega
          · have := HFW.out k hk; omega
        · have := (hmk D h).1; omega
        · refine HR.out.marks.same (S := fun k => k < wr.heap.size ∧ k ≠ W.heap.size + 1 ∧ k ≠ g ∧ ¬ U k) ((H3S.out.mono fun k hk => hk.2.1).trans ((HS1.out.mono fun k hk => hk.2.2.2).trans (hsame.mono fun k hk => ⟨by omega, hk.2.1, hk.2.2.1⟩))) (fun D' h => ⟨(hmk D' h).1, (hmk D' h).2.1, (hmk D' h).2.2, (HR.out.marked D' h).2.1⟩)
        · rcases List.mem_cons.1 h with h | h
          · have e : D' = D := by unfold mark at h; simpa using h
            subst e
            refine ⟨by omega, fun h => ?_, by omega, fun e => hVD (i5 _ e)⟩
            have := (hUV _ h).1; omega
          · obtain ⟨m1, m2, m3, m4⟩ := HR.out.marked D' h
            have hm := hmk D' h
            refine ⟨m1, fun h' => ?_, m3, fun e => ?_⟩
            · rcases HS2.out _ h' with h' | h'
              · exact m2 h'
              · rw [H3Z.out] at h'; omega
            · rcases hown _ e with h' | h'
              · omega
              · omega
end Go.Proofs.Ytokhnlhffnidmaa
