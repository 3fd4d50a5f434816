/- The solver's has and bind, from outside. -/
import Derived.Test.YtokhnlhffnidmaaUniC
import Derived.Laws.EntriesVeiled
namespace Go.Proofs.Ytokhnlhffnidmaa
open Go.RowKit Go.Shelf Elen

set_option maxRecDepth 100000 in
set_option maxHeartbeats 1000000 in
theorem uhas_calls (F : Nat → Prop) (sp mb nn : Nat) (s : Sub) (D : Int → Option Value) (t t' : T) (v : Int) (x : Value) (w : World) (hF : ∀ k, F k → k < w.heap.size) (hS : Solv F w sp mb nn s D) (ht : VF F w t x) (hf : Full s t t') (hv : s v = none) (hlow : ∀ k u, s k = some u → 0 ≤ k ∧ k < 256) :
    Calls Try.prog 46 #[.pointer (some ⟨sp, 0, none⟩), x, .int .i64 v] w fun e w' => e = .returned (.bool (T.has v t')) ∧ Below w.heap.size w w' := by
  obtain ⟨x, y, rfl, ht⟩ := ht
  obtain ⟨rfl, hi, hsl⟩ := ht.parts
  obtain ⟨A, c, rfl, -, -⟩ := hsl.shapeT
  have HS := Lib.hid hS
  have HT := Lib.hid ht
  have HF := Lib.hid hF
  have HFU := Lib.hid hf
  have HV := Lib.hid hv
  have HL := Lib.hid hlow
  clear hS ht hF hf hv hlow hsl
  go_enter Try.func46, Try.ntmps46
  go_wp2_with fail
  obtain ⟨W, hW⟩ : ∃ W, W = allocs w [.cells #[.pointer (some ⟨sp, 0, none⟩)] 43, .cells #[.int .i64 t.head, .slice A t.args.length c] 24, .cells #[.int .i64 v] 3, .cells #[.map none] 102, .cells #[lookV (w.heap.size + 2) w.heap.size (w.heap.size + 3) (w.heap.size + 4)] 41] := ⟨_, rfl⟩
  have hbW : Below w.heap.size w W := by rw [hW]; exact allocs_below _ _ (Nat.le_refl _)
  have hzW : W.heap.size = w.heap.size + 5 := by rw [hW]; exact allocs_size _ _
  have g : ∀ i o, [Obj.cells #[.pointer (some ⟨sp, 0, none⟩)] 43, .cells #[.int .i64 t.head, .slice A t.args.length c] 24, .cells #[.int .i64 v] 3, .cells #[.map none] 102, .cells #[lookV (w.heap.size + 2) w.heap.size (w.heap.size + 3) (w.heap.size + 4)] 41][i]? = some o → W.heap[w.heap.size + i]? = some o := fun i o h => by
    obtain ⟨hi, e⟩ := List.getElem?_eq_some_iff.1 h
    rw [hW, allocs_get _ _ i hi, e]
  have hI : LookI F v sp mb nn s D (w.heap.size + 2) w.heap.size (w.heap.size + 3) (w.heap.size + 4) w.heap.size none (fun _ => none) W := by
    refine ⟨cell_of_block (g 2 _ rfl) rfl, cell_of_block (g 0 _ rfl) rfl, cell_of_block (g 4 _ rfl) rfl, g 3 _ rfl, HS.out.later hbW, fun k e => (by cases e), fun k x e => (by cases e)⟩
  have hC : LookC F sp mb (w.heap.size + 2) w.heap.size (w.heap.size + 3) (w.heap.size + 4) w.heap.size := by
    have h1 := World.block_lt_of_cell? w _ HS.out.ptr
    have h2 := HS.out.map.lt
    exact ⟨HF.out, h1, h2, by omega, by omega, by omega, by omega, by omega, by omega, by omega⟩
  have hlk := look_calls F v sp mb nn s D _ _ _ _ _ hC HV.out HL.out t t' HFU.out none (fun _ => none) W _ _ hI (by omega) (HT.out.later hbW)
  have HLK := Lib.hid hlk
  have HBW := Lib.hid hbW
  have HWW := Lib.hid hW
  clear hlk hbW hW hI hC g hzW
  rw [HWW.out] at HLK HBW
  refine HLK.out.mono ?_
  rintro e w3 ⟨rfl, r3, Dk3, hI3, hR3, hS3⟩
  have hb3 := HBW.out.trans (hS3.below (n := w.heap.size) (by rw [allocs_size]; omega) (fun k hk => ⟨by omega, fun e => by cases e⟩))
  have HB3 := Lib.hid hb3
  clear hI3 hR3 hS3 hb3
  go_wp2
  go_ret
  exact ⟨rfl, HB3.out⟩

/-- what bind does -/
def BindPost (F : Nat → Prop) (sp mb : Nat) (s : Sub) (D : Int → Option Value) (v : Int) (t : T) (y : Value) (b : Bool) (w : World) (e : Ending) (w' : World) : Prop :=
  e = .returned (.bool b) ∧ if b then Solv F w' sp mb 256 (s.set v t) (fun j => if j = v then some (.agg #[.int .i64 t.head, y]) else D j) ∧ SameOn (fun k => k ≠ mb) w w' else Below w.heap.size w w'

set_option maxRecDepth 100000 in
set_option maxHeartbeats 1000000 in
theorem bind_calls (F : Nat → Prop) (sp mb nn : Nat) (s : Sub) (D : Int → Option Value) (t t' : T) (v : Int) (y : Value) (w : World) (hF : ∀ k, F k → k < w.heap.size) (hFm : ¬ F mb) (hS : Solv F w sp mb nn s D) (ht : IsF F w t (.int .i64 t.head) y) (hf : Full s t t') (hv : s v = none) (hlow : ∀ k u, s k = some u → 0 ≤ k ∧ k < 256) (hv0 : 0 ≤ v) (hv1 : v < 256) (hspm : sp ≠ mb) :
    Calls Try.prog 31 #[.pointer (some ⟨sp, 0, none⟩), .int .i64 v, .agg #[.int .i64 t.head, y]] w (BindPost F sp mb s D v t y (!T.has v t') w) := by
  obtain ⟨-, hi, hsl⟩ := ht.parts
  obtain ⟨A, c, rfl, -, -⟩ := hsl.shapeT
  have hb : Below w.heap.size w (w.alloc (.cells #[.int .i64 t.head, .slice A t.args.length c] 24)) := (Below.refl _ _).alloc (Nat.le_refl _) _
  have hh := uhas_calls F sp mb nn s D t t' v _ _ (fun k hk => by have := hF k hk; simp; omega) (hS.later hb) (VF.of_ (ht.later hb)) hf hv hlow
  have hn1 := World.alloc_heap_new w (.cells #[.int .i64 t.head, .slice A t.args.length c] 24)
  have HH := Lib.hid hh
  have HB := Lib.hid hb
  have HN1 := Lib.hid hn1
  have HS := Lib.hid hS
  have HT := Lib.hid ht
  have HF := Lib.hid hF
  have HFM := Lib.hid hFm
  have HV := Lib.hid hv
  have HL := Lib.hid hlow
  have HSPM := Lib.hid hspm
  clear hh hb hn1 hS ht hF hv hlow hsl hf hFm hspm
  go_enter Try.func31, Try.ntmps31
  go_wp2_with fail
  refine HH.out.mono ?_
  rintro e w1 ⟨rfl, hB1⟩
  have hb1 := HB.out.trans (hB1.mono (by simp))
  have h1 := (hB1.block w.heap.size (by simp)).trans HN1.out
  have k0 := cell_of_block h1 (j := 0) (v := .int .i64 t.head) rfl
  have k1 := cell_of_block h1 (j := 1) (v := .slice A t.args.length c) rfl
  have HB1 := Lib.hid hb1
  have hS1 := HS.out.later hb1
  have kp := hS1.ptr
  have HS1 := Lib.hid hS1
  have hz1 := hb1.size
  clear hB1 hb1 h1 hS1
  rcases hb : T.has v t' with _ | _
  · have HHB := Lib.hid hb
    clear hb
    go_wp2_with fail
    refine wp_mix 6 17 (fun ix _ u => match ix with | 0 => u = .pointer (some ⟨sp, 0, none⟩) | 1 => u = .pointer (some ⟨sp, 0, none⟩) | 2 => u = .pointer (some ⟨sp, 0, none⟩) | 3 => u = .map (some mb) | 4 => u = .int .i64 v | 5 => u = .agg #[.int .i64 t.head, .slice A t.args.length c] | _ => True) (by kernel_rfl) rfl (by decide +kernel) (fun ix W W' u _ h => h) ?_ ?_
    · refine goes_cons rfl ?_ (goes_cons rfl ?_ (goes_cons rfl ?_ (goes_cons rfl ?_ (goes_cons rfl ?_ (goes_cons rfl ?_ (goes_nil))))))
      · intro ρ W hW hc hg hf hbase hdeps
        obtain ⟨hk, -⟩ := bcell hW
        have r0 := hbase 0 (by kernel_rfl)
        clear hbase hdeps
        have kk1 := cell_kept hW kp
        have kk2 := cell_kept hW k0
        have kk3 := cell_kept hW k1
        go_simp
        exact ⟨Below.refl _ _, rfl⟩
      · intro ρ W hW hc hg hf hbase hdeps
        obtain ⟨hk, -⟩ := bcell hW
        have r11 : ρ (.tmp 11) = .pointer (some ⟨sp, 0, none⟩) := hdeps 0 _ 11 (by kernel_rfl) rfl rfl
        clear hbase hdeps
        have kk1 := cell_kept hW kp
        have kk2 := cell_kept hW k0
        have kk3 := cell_kept hW k1
        go_simp
        exact ⟨Below.refl _ _, rfl⟩
      · intro ρ W hW hc hg hf hbase hdeps
        obtain ⟨hk, -⟩ := bcell hW
        have r12 : ρ (.tmp 12) = .pointer (some ⟨sp, 0, none⟩) := hdeps 1 _ 12 (by kernel_rfl) rfl rfl
        clear hbase hdeps
        have kk1 := cell_kept hW kp
        have kk2 := cell_kept hW k0
        have kk3 := cell_kept hW k1
        go_simp
        exact ⟨Below.refl _ _, rfl⟩
      · intro ρ W hW hc hg hf hbase hdeps
        obtain ⟨hk, -⟩ := bcell hW
        have r13 : ρ (.tmp 13) = .pointer (some ⟨sp, 0, none⟩) := hdeps 2 _ 13 (by kernel_rfl) rfl rfl
        clear hbase hdeps
        have kk1 := cell_kept hW kp
        have kk2 := cell_kept hW k0
        have kk3 := cell_kept hW k1
        go_simp
        exact ⟨Below.refl _ _, rfl⟩
      · intro ρ W hW hc hg hf hbase hdeps
        obtain ⟨hk, -⟩ := bcell hW
        have r1 := hbase 1 (by kernel_rfl)
        clear hbase hdeps
        have kk1 := cell_kept hW kp
        have kk2 := cell_kept hW k0
        have kk3 := cell_kept hW k1
        go_simp
        exact ⟨Below.refl _ _, rfl⟩
      · intro ρ W hW hc hg hf hbase hdeps
        obtain ⟨hk, -⟩ := bcell hW
        have r5 := hbase 5 (by kernel_rfl)
        clear hbase hdeps
        have kk1 := cell_kept hW kp
        have kk2 := cell_kept hW k0
        have kk3 := cell_kept hW k1
        go_simp
        exact ⟨Below.refl _ _, rfl⟩
    · intro us W2 hW2 hus
      have hu0 : us 0 = .pointer (some ⟨sp, 0, none⟩) := hus 0 (by decide)
      have hu1 : us 1 = .pointer (some ⟨sp, 0, none⟩) := hus 1 (by decide)
      have hu2 : us 2 = .pointer (some ⟨sp, 0, none⟩) := hus 2 (by decide)
      have hu3 : us 3 = .map (some mb) := hus 3 (by decide)
      have hu4 : us 4 = .int .i64 v := hus 4 (by decide)
      have hu5 : us 5 = .agg #[.int .i64 t.head, .slice A t.args.length c] := hus 5 (by decide)
      clear hus
      simp only [List.drop_succ_cons, List.drop_zero, List.take_succ_cons, List.take_zero, fill, Act.put, List.setIfInBounds_toArray, List.set_cons_succ, List.set_cons_zero, hu0, hu1, hu2, hu3, hu4, hu5]
      clear hu0 hu1 hu2 hu3 hu4 hu5
      have hki : I64 v := by unfold I64; omega
      have HM2 := Lib.hid ((HS1.out.later hW2).map.cap (fun k x e => by
        have h2 := (HS1.out.none_ k)
        cases hsk : s k with
        | none => rw [h2 hsk] at e; cases e
        | some u => exact HL.out k u hsk))
      have HW2 := Lib.hid hW2
      clear hW2 k0 k1 kp
      go_wp2_with (at_mapUpdate; refine wp_put rfl (.tmp 14) (.tmp 15) (.tmp 16) 44 24 rfl Try.underlying44 mb 256 D rfl v rfl hki (.agg #[.int .i64 t.head, .slice A t.args.length c]) rfl HM2.out (by simp only [maxLen]; omega) ?_; intro w3 hm3 hg3; have HM3 := Lib.hid hm3; have HG3 := Lib.hid hg3; clear hm3 hg3)
      go_ret
      rw [HHB.out]
      have hs3 : SameOn (fun k => k ≠ mb) w w3 := (SameOn.of_new HB1.out).trans ((SameOn.of_new HW2.out).trans (.of_grown HG3.out (fun k e h => by cases e; exact h rfl)))
      have hF3 : ∀ k, F k → k ≠ mb := fun k hk e => HFM.out (e ▸ hk)
      refine ⟨rfl, ⟨hs3.cell HSPM.out HS.out.ptr, HM3.out.cap (fun k x e => ?_), fun k e => ?_, fun k u e => ?_⟩, hs3⟩
      · by_cases c : k = v
        · subst c; exact ⟨hv0, hv1⟩
        · simp only [if_neg c] at e
          cases hsk : s k with
          | none => rw [HS.out.none_ k hsk] at e; cases e
          | some u => exact HL.out k u hsk
      · by_cases c : k = v
        · subst c; simp [Sub.set] at e
        · simp only [Sub.set, if_neg c] at e
          simp only [if_neg c]
          exact HS.out.none_ k e
      · by_cases c : k = v
        · subst c
          simp only [Sub.set, if_pos] at e
          cases e
          simp only [if_pos]
          exact ⟨_, _, rfl, HT.out.same hs3 hF3⟩
        · simp only [Sub.set, if_neg c] at e
          simp only [if_neg c]
          obtain ⟨x, y, e1, e2⟩ := HS.out.some_ k u e
          exact ⟨x, y, e1, e2.same hs3 hF3⟩
  · have HHB := Lib.hid hb
    clear hb
    go_wp2
    go_ret
    rw [HHB.out]
    exact ⟨rfl, HB1.out⟩
end Go.Proofs.Ytokhnlhffnidmaa
