/- The reference's net of layer 4 in memory; what reads it. -/
import Derived.Test.YtokhnlhffnidmaaRefB
import Derived.Test.YtokhnlhffnidmaaPlainC
namespace Go.Proofs.Ytokhnlhffnidmaa
open Go.RowKit Elen

/-- numbers as elements -/
def KI : Kind Nat where
  sz := 1
  by_ := 8
  pos := by decide
  bpos := by decide
  R _ _ k vs := vs = [.int .i64 (k : Int)]
  len h := by subst h; rfl
  one h := by subst h; intro u hu; simp at hu; subst hu; rfl
  mono _ h := h
  bound h := h
  move _ h := h
/-- parts as elements -/
def KN : Kind Nd where
  sz := 3
  by_ := 40
  pos := by decide
  bpos := by decide
  R F w nd vs := ∃ s, vs = [.int .i64 nd.head, s, .int .i64 nd.to] ∧ I64 nd.head ∧ Sl KI F w nd.args s
  len h := by obtain ⟨s, rfl, _⟩ := h; rfl
  one h := by
    obtain ⟨s, rfl, _, A, c, rfl, _⟩ := h
    intro u hu
    simp only [List.mem_cons, List.not_mem_nil, or_false] at hu
    rcases hu with rfl | rfl | rfl <;> rfl
  mono hF h := by obtain ⟨s, e, h0, h⟩ := h; exact ⟨s, e, h0, h.mono hF⟩
  bound h := by obtain ⟨s, e, h0, h⟩ := h; exact ⟨s, e, h0, h.bound⟩
  move hm h := by obtain ⟨s, e, h0, h⟩ := h; exact ⟨s, e, h0, h.move hm⟩

/-- the net, as it is read: a block gn whose one cell is the slice of its parts -/
def NetR (F : Nat → Prop) (w : World) (gn g cap : Nat) (N : List Nd) : Prop :=
  w.cell? ⟨gn, 0, none⟩ = some (.slice (some ⟨g, 0, none⟩) N.length cap) ∧ N.length * 40 ≤ 140737488355328 ∧ F gn ∧ F g ∧ Row KN F w N g 0
theorem Row.later {α : Type} {K : Kind α} {F : Nat → Prop} {w w1 : World} {xs : List α} {b o : Nat} (hb : Below w.heap.size w w1) (h : Row K F w xs b o) : Row K F w1 xs b o := fun i hi => by
  obtain ⟨vs, h1, h2⟩ := h i hi
  exact ⟨vs, K.later hb h1, fun j hj => cell_kept hb (h2 j hj)⟩
theorem NetR.later {F : Nat → Prop} {w w1 : World} {gn g cap : Nat} {N : List Nd} (hb : Below w.heap.size w w1) (h : NetR F w gn g cap N) : NetR F w1 gn g cap N :=
  ⟨cell_kept hb h.1, h.2.1, h.2.2.1, h.2.2.2.1, h.2.2.2.2.later hb⟩
theorem NetR.move {F : Nat → Prop} {w w1 : World} {gn g cap : Nat} {N : List Nd} (hm : ∀ b, F b → w1.heap[b]? = w.heap[b]?) (h : NetR F w gn g cap N) : NetR F w1 gn g cap N :=
  ⟨(cell_of_heap (hm gn h.2.2.1)).trans h.1, h.2.1, h.2.2.1, h.2.2.2.1, h.2.2.2.2.move h.2.2.2.1 hm⟩
theorem NetR.mono {F F' : Nat → Prop} {w : World} {gn g cap : Nat} {N : List Nd} (hF : ∀ b, F b → F' b) (h : NetR F w gn g cap N) : NetR F' w gn g cap N :=
  ⟨h.1, h.2.1, hF _ h.2.2.1, hF _ h.2.2.2.1, h.2.2.2.2.mono hF⟩
theorem NetR.bound {F : Nat → Prop} {w : World} {gn g cap : Nat} {N : List Nd} (h : NetR F w gn g cap N) (hp : 0 < N.length) : NetR (fun b => F b ∧ b < w.heap.size) w gn g cap N := by
  refine ⟨h.1, h.2.1, ⟨h.2.2.1, World.block_lt_of_cell? w _ h.1⟩, ⟨h.2.2.2.1, ?_⟩, fun i hi => ?_⟩
  · obtain ⟨vs, k1, k2⟩ := h.2.2.2.2 0 hp
    have := KN.len k1
    have h3 : KN.sz = 3 := rfl
    exact World.block_lt_of_cell? w _ (k2 0 (by omega))
  · obtain ⟨vs, k1, k2⟩ := h.2.2.2.2 i hi
    exact ⟨vs, KN.bound k1, k2⟩
theorem NetR.get {F : Nat → Prop} {w : World} {gn g cap : Nat} {N : List Nd} (h : NetR F w gn g cap N) {i : Nat} {nd : Nd} (hi : N[i]? = some nd) :
    i < N.length ∧ w.cell? ⟨g, i * 3, none⟩ = some (.int .i64 nd.head) ∧ w.cell? ⟨g, i * 3 + 2, none⟩ = some (.int .i64 nd.to) ∧ ∃ A c, w.cell? ⟨g, i * 3 + 1, none⟩ = some (.slice A nd.args.length c) ∧ nd.args.length * 8 ≤ 140737488355328 ∧
      (0 < nd.args.length → ∃ b o, A = some ⟨b, o, none⟩ ∧ ∀ k (hk : k < nd.args.length), w.cell? ⟨b, o + k, none⟩ = some (.int .i64 (nd.args[k] : Int))) := by
  obtain ⟨hlt, e⟩ := List.getElem?_eq_some_iff.1 hi
  obtain ⟨vs, ⟨s, rfl, _, hs⟩, hc⟩ := h.2.2.2.2 i hlt
  rw [e] at hs hc
  obtain ⟨A, c, rfl, k1, k2, k3⟩ := hs
  have c0 := hc 0 (by simp)
  have c1 := hc 1 (by simp)
  have c2 := hc 2 (by simp)
  simp only [KN, Nat.zero_add, Nat.add_zero] at c0 c1 c2
  refine ⟨hlt, c0, c2, A, c, c1, k2, fun hp => ?_⟩
  obtain ⟨b, o, e1, _, hr⟩ := k3 hp
  refine ⟨b, o, e1, fun k hk => ?_⟩
  obtain ⟨us, hu, hcu⟩ := hr k hk
  have hu' : us = [.int .i64 (nd.args[k] : Int)] := hu
  subst hu'
  have := hcu 0 (by simp)
  simpa [KI] using this

theorem NetR.i64 {F : Nat → Prop} {w : World} {gn g cap : Nat} {N : List Nd} (h : NetR F w gn g cap N) {i : Nat} {nd : Nd} (hi : N[i]? = some nd) : I64 nd.head := by
  obtain ⟨hlt, e⟩ := List.getElem?_eq_some_iff.1 hi
  obtain ⟨vs, ⟨s, rfl, h0, hs⟩, hc⟩ := h.2.2.2.2 i hlt
  rw [e] at h0; exact h0
set_option maxHeartbeats 1000000 in
theorem behind_calls (F : Nat → Prop) (w : World) (gn g cap : Nat) (N : List Nd) (hN : NetR F w gn g cap N) (k : Nat) (x j : Nat) (hb : BehK N k x j) (htos : ∀ (i : Nat) (y : Nd), N[i]? = some y → y.to < N.length) :
    Calls Try.prog 37 #[.pointer (some ⟨gn, 0, none⟩), .int .i64 (x : Int)] w fun e w' => e = .returned (.int .i64 (j : Int)) ∧ w = w' := by
  have hc := hN.1
  have hsz := hN.2.1
  have HN := Lib.hid hN
  have HB := Lib.hid hb
  have HT := Lib.hid htos
  clear hN hb htos
  go_enter Try.func37, Try.ntmps37
  go_wp2
  go_loopg [1] k (fun k x' wr => ∃ y : Nat, x' = .int .i64 (y : Int) ∧ BehK N k y j ∧ wr = w)
  case atStart => exact ⟨x, rfl, HB.out, rfl⟩
  case round =>
    obtain ⟨y, rfl, hbk, rfl⟩ := hrel
    cases hbk with
    | here e0 e1 =>
      obtain ⟨hlt, h0, h2, A, c, h1, _⟩ := HN.out.get e0
      go_wp2
      go_ret
      exact ⟨rfl, rfl⟩
    | @step k' _ nd _ e0 e1 e2 =>
      obtain ⟨hlt, h0, h2, A, c, h1, _⟩ := HN.out.get e0
      have HE := Lib.hid e2
      obtain ⟨z, hz⟩ : ∃ z : Nat, nd.to = (z : Int) := ⟨nd.to.toNat, by omega⟩
      rw [hz] at h2 e1
      have HZ : Hid (nd.to.toNat = z) := by rw [hz]; exact rfl
      clear hz e0 e2
      go_wp2
      go_roundg k'
      case rel => exact ⟨z, rfl, by rw [← HZ.out]; exact HE.out, rfl⟩
      case measure => omega

theorem NetR.grown {w w1 : World} {gn g cap bs : Nat} {N : List Nd} (h : NetR (· ≠ bs) w gn g cap N) (hp : 0 < N.length) (hg : w.grownBy w1 (some bs)) : NetR (· ≠ bs) w1 gn g cap N :=
  NetR.mono (fun _ h => h.1) (NetR.move (fun b hb => hg.block b hb.2 (fun e => hb.1 (Option.some.inj e))) (h.bound hp))
/-! ### which parts were looked at -/
def SeenAt (w : World) (bs : Nat) (S : List Bool) : Prop := w.heap[bs]? = some (.cells (S.map Value.bool).toArray 4 (0, 0))
theorem SeenAt.cell {w : World} {bs : Nat} {S : List Bool} (h : SeenAt w bs S) {j : Nat} (hj : j < S.length) : w.cell? ⟨bs, j, none⟩ = some (.bool S[j]) := by
  simp [World.cell?, show w.heap[bs]? = _ from h, hj]
theorem SeenAt.frozen {w : World} {bs : Nat} {S : List Bool} (h : SeenAt w bs S) (j : Nat) : w.frozen? ⟨bs, j, none⟩ = false := by
  simp [World.frozen?, show w.heap[bs]? = _ from h]
theorem SeenAt.set {w : World} {bs : Nat} {S : List Bool} (h : SeenAt w bs S) (j : Nat) (b : Bool) : SeenAt (w.setCell ⟨bs, j, none⟩ (.bool b)) bs (S.set j b) := by
  unfold SeenAt at *
  simp only [World.setCell, Array.getElem?_modify, if_pos, h, Option.map_some]
  simp [List.map_set]
theorem grownBy_setCell (w : World) (a : Addr) (v : Value) : w.grownBy (w.setCell a v) (some a.block) :=
  ⟨rfl, rfl, rfl, by simp [World.setCell], fun k _ hne => Below.heap_setCell _ _ _ _ (fun e => hne (by rw [e]))⟩

/-- what may be said of what was looked at: it has no such variable, or it is greater than what is looked at now -/
def SeenInv (N : List Nd) (s : Sub) (v : Int) (z : Nat) (S : List Bool) : Prop := ∀ y ty fy, S[y]? = some true → Den N y ty → Full s ty fy → T.has v fy = false ∨ z < fy.size
def HasPost (N : List Nd) (s : Sub) (v : Int) (t' : T) (bs : Nat) (S : List Bool) (w : World) (e : Ending) (w' : World) : Prop :=
  ∃ S' : List Bool, e = .returned (.bool (T.has v t')) ∧ w.grownBy w' (some bs) ∧ SeenAt w' bs S' ∧ S'.length = S.length ∧
    (T.has v t' = false → ∀ (y : Nat) (ty fy : T), S'[y]? = some true → Den N y ty → Full s ty fy → S[y]? = some true ∨ T.has v fy = false)

set_option maxRecDepth 100000 in
set_option maxHeartbeats 2000000 in
theorem has_calls (N : List Nd) (s : Sub) (hn : Net N) (hr : Rep N s) (gn g cap bs nv : Nat) (ndv : Nd) (hnv : N[nv]? = some ndv) (hv0 : ndv.head < 0) (hv1 : ndv.to < 0) :
    ∀ (z x : Nat) (t t' : T) (S : List Bool) (w : World), t'.size ≤ z → Den N x t → Full s t t' → NetR (· ≠ bs) w gn g cap N → SeenAt w bs S → S.length = N.length → SeenInv N s (-1 - ndv.head) t'.size S →
    Calls Try.prog 39 #[.pointer (some ⟨gn, 0, none⟩), .int .i64 (x : Int), .int .i64 (nv : Int), .slice (some ⟨bs, 0, none⟩) N.length N.length] w (HasPost N s (-1 - ndv.head) t' bs S w) := by
  intro z
  induction z with
  | zero => intro x t t' S w h; have := T.size_pos t'; omega
  | succ z ih =>
  intro x t t' S w hz hd hf hN hS hSl hI
  obtain ⟨j, u, nd, hb, hdj, hwk, hfu, hnj, hto, hhd⟩ := Beh.of_full hn hr hf hd
  obtain ⟨k, hbk⟩ := hb.count
  have HN := Lib.hid hN
  have HS := Lib.hid hS
  have HK := Lib.hid hbk
  have HI := Lib.hid hI
  have HSL := Lib.hid hSl
  have IH := Lib.hid ih
  have HT := Lib.hid hn.tos
  have HZ := Lib.hid hz
  have hjl : j < N.length := (List.getElem?_eq_some_iff.1 hnj).1
  have HJ := Lib.hid hnj
  have HDJ := Lib.hid hdj
  have HFU := Lib.hid hfu
  have hnl := hN.2.1
  have hto' := Lib.hid hto
  have HH := Lib.hid hhd
  clear hN hS hI hSl hbk ih hz hnj hdj hfu hd hf hwk hb hto hhd
  have hsc := HS.out.cell (j := j) (by have := HSL.out; omega)
  have hsf := HS.out.frozen j
  go_enter Try.func39, Try.ntmps39
  go_wp2_with fail
  refine (behind_calls _ w gn g cap N HN.out k x j HK.out HT.out).mono ?_
  rintro e w1 ⟨rfl, rfl⟩
  by_cases hjv : j = nv
  · subst hjv
    have hres : Hid (T.has (-1 - ndv.head) t' = true) := by
      have e0 := HJ.out
      rw [hnv] at e0; cases e0
      have := HFU.out
      have : T.has (-1 - ndv.head) t' = true := by
        cases u with
        | mk hu au =>
          have hhu : ndv.head = hu := HH.out
          cases HFU.out with
          | free h1 h2 => simp [T.has, ← hhu, hv0]
          | bound h1 h2 => rw [← hhu, hr.free _ _ hnv hv0 hv1] at h2; cases h2
          | node h1 => omega
      exact this
    have heq : ((j : Int) == (j : Int)) = true := by simp
    go_wp2
    go_ret
    refine ⟨S, ?_, World.grownBy.refl _ _, HS.out, rfl, fun h => by rw [hres.out] at h; cases h⟩
    rw [hres.out]; rfl
  · have hne : ((j : Int) == (nv : Int)) = false := by simp; omega
    cases hsj : S[j]'(by have := HSL.out; omega) with
    | true =>
      rw [hsj] at hsc
      have hres : Hid (T.has (-1 - ndv.head) t' = false) := by
        have h1 : S[j]? = some true := by rw [List.getElem?_eq_getElem (by have := HSL.out; omega), hsj]
        rcases HI.out j u t' h1 HDJ.out HFU.out with h | h
        · exact h
        · omega
      clear hsj
      go_wp2
      go_ret
      refine ⟨S, ?_, World.grownBy.refl _ _, HS.out, rfl, fun _ y ty fy h _ _ => .inl h⟩
      rw [hres.out]; rfl
    | false =>
      rw [hsj] at hsc
      clear hsj
      obtain ⟨hlt, h0, h2, A, c, h1, hal, hargs⟩ := HN.out.get HJ.out
      -- what is written out, and what is reached
      have hcase : ∃ ls : List T, nd.args.length = ls.length ∧ (∀ i (hi : i < nd.args.length) (hi' : i < ls.length), ∃ ti, Den N nd.args[i] ti ∧ Full s ti ls[i] ∧ ls[i].size < t'.size) ∧ T.has (-1 - ndv.head) t' = T.hasL (-1 - ndv.head) ls := by
        have hf := HFU.out
        have hd := HDJ.out
        have hh := HH.out
        cases hd with
        | @mk _ nd' ts e0 hl hk =>
          rw [HJ.out] at e0; cases e0
          have hto := hto'.out
          cases hf with
          | free q1 q2 =>
            refine ⟨[], by rw [hn.leaf j nd HJ.out q1]; rfl, fun i hi hi' => absurd hi' (by simp), ?_⟩
            have hne : ¬ (-1 - nd.head = -1 - ndv.head) := fun e => hjv (hn.uniq j nv nd ndv HJ.out hnv q1 (by omega))
            simp only [T.has, T.hasL, Bool.or_false, hne, decide_false, Bool.and_false]
          | bound q1 q2 => rw [hr.free j nd HJ.out q1 hto] at q2; cases q2
          | @node _ _ ls q1 q2 q3 =>
            refine ⟨ls, by omega, fun i hi hi' => ⟨ts[i]'(by omega), hk i hi (by omega), q3 i (by omega) hi', T.size_lt (List.getElem_mem _)⟩, ?_⟩
            have : decide (nd.head < 0) = false := by simp; omega
            simp only [T.has, this, Bool.false_and, Bool.false_or]
      obtain ⟨ls, hls, hch, hhas⟩ := hcase
      have HLS := Lib.hid hls
      have HCH := Lib.hid hch
      have HHAS := Lib.hid hhas
      clear hls hch hhas
      have hg0 := grownBy_setCell w ⟨bs, j, none⟩ (.bool true)
      have hS0 := HS.out.set j true
      have hN0 := HN.out.move (w1 := w.setCell ⟨bs, j, none⟩ (.bool true)) (fun b hb => Below.heap_setCell _ _ _ _ hb)
      have hI0 : ∀ y, (S.set j true)[y]? = some true → y = j ∨ S[y]? = some true := by
        intro y hy
        rw [List.getElem?_set] at hy
        by_cases c : j = y
        · exact .inl c.symm
        · rw [if_neg c] at hy; exact .inr hy
      have hl0 : (S.set j true).length = N.length := by rw [List.length_set]; exact HSL.out
      have HG0 := Lib.hid hg0
      have HS0 := Lib.hid hS0
      have HN0 := Lib.hid hN0
      have HI0 := Lib.hid hI0
      have HL0 := Lib.hid hl0
      clear hg0 hS0 hN0 hI0 hl0
      go_wp2
      go_loopg [9] (nd.args.length + 1) (fun k i wr => ∃ (d : Nat) (S1 : List Bool), d + k = nd.args.length + 1 ∧ i = .int .i64 d ∧ w.grownBy wr (some bs) ∧ SeenAt wr bs S1 ∧ S1.length = N.length ∧ NetR (· ≠ bs) wr gn g cap N ∧
        (∀ y ty fy, S1[y]? = some true → Den N y ty → Full s ty fy → y = j ∨ S[y]? = some true ∨ T.has (-1 - ndv.head) fy = false) ∧ (∀ i (hi : i < ls.length), i < d → T.has (-1 - ndv.head) ls[i] = false))
      case atStart => exact ⟨0, S.set j true, by omega, rfl, HG0.out, HS0.out, HL0.out, HN0.out, fun y ty fy h _ _ => (HI0.out y h).imp id .inl, fun i _ h => by omega⟩
      case round =>
        obtain ⟨d, S1, hd, rfl, hG, hS1, hl1, hN1, hI1, hdone⟩ := hrel
        have HG := Lib.hid hG
        have HS1 := Lib.hid hS1
        have HL1 := Lib.hid hl1
        have HN1 := Lib.hid hN1
        have HI1 := Lib.hid hI1
        have HDN := Lib.hid hdone
        clear hG hS1 hl1 hN1 hI1 hdone
        obtain ⟨-, k0, k2, A1, c1, k1, -, hargs1⟩ := HN1.out.get HJ.out
        have kc := HN1.out.1
        clear h0 h1 h2 hargs hsc hsf
        by_cases hdl : d < nd.args.length
        · obtain ⟨b1, o1, rfl, hcell⟩ := hargs1 (by omega)
          have hcd := hcell d hdl
          obtain ⟨ti, q1, q2, q3⟩ := HCH.out d hdl (by have := HLS.out; omega)
          have Q1 := Lib.hid q1
          have Q2 := Lib.hid q2
          have Q3 := Lib.hid q3
          clear hargs1 hcell q1 q2 q3
          have hinv : SeenInv N s (-1 - ndv.head) (ls[d]'(by have := HLS.out; omega)).size S1 := by
            intro y ty fy hy hdy hfy
            rcases HI1.out y ty fy hy hdy hfy with h | h | h
            · subst h
              have e1 := hdy.det HDJ.out
              subst e1
              have e2 := hfy.det HFU.out
              subst e2
              exact .inr Q3.out
            · rcases HI.out y ty fy h hdy hfy with h | h
              · exact .inl h
              · exact .inr (by have := Q3.out; omega)
            · exact .inl h
          have HINV := Lib.hid hinv
          clear hinv
          go_wp2_with fail
          refine (IH.out _ ti _ S1 wr (by have := Q3.out; have := HZ.out; omega) Q1.out Q2.out HN1.out HS1.out HL1.out HINV.out).mono ?_
          rintro e w2 ⟨S2, rfl, hG2, hS2, hl2, hI2⟩
          have HG2 := Lib.hid (HG.out.trans hG2)
          have HN2 := Lib.hid (HN1.out.grown (by omega) hG2)
          have HS2 := Lib.hid hS2
          have HL2 := Lib.hid (hl2.trans HL1.out)
          have HI2 := Lib.hid hI2
          clear hG2 hS2 hl2 hI2 k0 k1 k2 kc
          cases hres : T.has (-1 - ndv.head) (ls[d]'(by have := HLS.out; omega)) with
          | true =>
            have HR := Lib.hid hres
            clear hres
            have hfin : Hid (T.has (-1 - ndv.head) t' = true) := by
              have : T.has (-1 - ndv.head) t' = true := by rw [HHAS.out]; exact T.hasL_iff.2 ⟨d, by have := HLS.out; omega, HR.out⟩
              exact this
            go_wp2
            go_ret
            refine ⟨S2, ?_, HG2.out, HS2.out, by rw [HL2.out, HSL.out], fun h => by rw [hfin.out] at h; cases h⟩
            rw [hfin.out]; rfl
          | false =>
            have HR := Lib.hid hres
            clear hres
            go_wp2
            go_roundg (gk - 1)
            case rel =>
              refine ⟨d + 1, S2, by omega, by go_num, HG2.out, HS2.out, HL2.out, HN2.out, fun y ty fy hy hdy hfy => ?_, fun i hi hid => ?_⟩
              · rcases HI2.out HR.out y ty fy hy hdy hfy with h | h
                · exact HI1.out y ty fy h hdy hfy
                · exact .inr (.inr h)
              · by_cases c : i = d
                · subst c; exact HR.out
                · exact HDN.out i hi (by omega)
            case measure => omega
        · have hfin : Hid (T.has (-1 - ndv.head) t' = false) := by
            have : T.has (-1 - ndv.head) t' = false := by
              rw [HHAS.out]
              cases hc : T.hasL (-1 - ndv.head) ls with
              | false => rfl
              | true =>
                obtain ⟨i, hi, h⟩ := T.hasL_iff.1 hc
                rw [HDN.out i hi (by have := HLS.out; omega)] at h; cases h
            exact this
          go_wp2
          go_ret
          refine ⟨S1, ?_, HG.out, HS1.out, by rw [HL1.out, HSL.out], fun _ y ty fy hy hdy hfy => ?_⟩
          · rw [hfin.out]; rfl
          · rcases HI1.out y ty fy hy hdy hfy with h | h | h
            · subst h
              have e1 := hdy.det HDJ.out
              subst e1
              have e2 := hfy.det HFU.out
              subst e2
              exact .inr hfin.out
            · exact .inl h
            · exact .inr h
end Go.Proofs.Ytokhnlhffnidmaa
