/- The solver's has, and bind. -/
import Derived.Test.YtokhnlhffnidmaaUniB
namespace Go.Proofs.Ytokhnlhffnidmaa
open Go.RowKit Go.Shelf Elen

open Classical in
/-- behind all that is bound, has it the variable? -/
noncomputable def hasP (s : Sub) (v : Int) (a : T) : Bool := decide (∃ a', Full s a a' ∧ T.has v a' = true)
theorem hasP_eq {s : Sub} {v : Int} {a a' : T} (h : Full s a a') : hasP s v a = T.has v a' := by
  unfold hasP
  cases c : T.has v a' with
  | true => simp only [decide_eq_true_eq]; exact ⟨a', h, c⟩
  | false =>
    simp only [decide_eq_false_iff_not]
    rintro ⟨b, hb, e⟩
    rw [← hb.det h] at c
    rw [e] at c; cases c
theorem hasP_any {s : Sub} {v : Int} {ar ar' : List T} (hl : ar.length = ar'.length) (hf : ∀ i (hi : i < ar.length) (hi' : i < ar'.length), Full s ar[i] ar'[i]) : ar.any (hasP s v) = T.hasL v ar' := by
  rw [Bool.eq_iff_iff, List.any_eq_true, T.hasL_iff]
  constructor
  · rintro ⟨a, ha, h⟩
    obtain ⟨i, hi, rfl⟩ := List.mem_iff_getElem.1 ha
    exact ⟨i, by omega, by rw [← hasP_eq (hf i hi (by omega))]; exact h⟩
  · rintro ⟨i, hi, h⟩
    exact ⟨ar[i], List.getElem_mem _, by rw [hasP_eq (hf i (by omega) hi)]; exact h⟩

theorem tell_calls (F : Nat → Prop) (v : Int) (sp mb nn : Nat) (s : Sub) (D : Int → Option Value) (bv bs bk bl n0 bu : Nat) (r : Option Nat) (Dk : Int → Option Value) (W : World) (hI : LookI F v sp mb nn s D bv bs bk bl n0 r Dk W) (t : T) (x y : Value) (b : Bool)
    (hu0 : W.cell? ⟨bu, 0, none⟩ = some x) (hu1 : W.cell? ⟨bu, 1, none⟩ = some y) (ht : IsF F W t x y)
    (hlook : Calls Try.prog 54 #[.agg #[x, y], .pointer (some ⟨bv, 0, none⟩), .pointer (some ⟨bs, 0, none⟩), .pointer (some ⟨bk, 0, none⟩), .pointer (some ⟨bl, 0, none⟩)] W (LookPost F v sp mb nn s D bv bs bk bl n0 r W b)) :
    Calls Try.prog 56 #[.pointer (some ⟨bl, 0, none⟩), .pointer (some ⟨bu, 0, none⟩)] W (LookPost F v sp mb nn s D bv bs bk bl n0 r W b) := by
  obtain ⟨rfl, hi, hs⟩ := ht.parts
  obtain ⟨A, c, rfl, -, -⟩ := hs.shapeT
  have hl := hI.cl
  unfold lookV at hl
  have HL := Lib.hid hlook
  clear hlook hI ht hs
  go_enter Try.func56, Try.ntmps56
  go_wp2_with fail
  refine HL.out.mono ?_
  rintro e w1 ⟨rfl, hP⟩
  have HP := Lib.hid hP
  clear hP hu0 hu1 hl
  go_wp2
  go_ret
  exact ⟨rfl, HP.out⟩

set_option maxRecDepth 100000 in
set_option maxHeartbeats 1000000 in
theorem look_calls (F : Nat → Prop) (v : Int) (sp mb nn : Nat) (s : Sub) (D : Int → Option Value) (bv bs bk bl n0 : Nat) (hC : LookC F sp mb bv bs bk bl n0) (hv : s v = none) (hlow : ∀ k u, s k = some u → 0 ≤ k ∧ k < 256) (t t' : T) (hf : Full s t t') :
    ∀ (r : Option Nat) (Dk : Int → Option Value) (W : World) (x y : Value), LookI F v sp mb nn s D bv bs bk bl n0 r Dk W → n0 ≤ W.heap.size → IsF F W t x y →
    Calls Try.prog 54 #[.agg #[x, y], .pointer (some ⟨bv, 0, none⟩), .pointer (some ⟨bs, 0, none⟩), .pointer (some ⟨bk, 0, none⟩), .pointer (some ⟨bl, 0, none⟩)] W (LookPost F v sp mb nn s D bv bs bk bl n0 r W (T.has v t')) := by
  induction hf with
  | @free h ar h0 hs =>
    intro r Dk W x y hI hz ht
    obtain ⟨rfl, hi, hsl⟩ := ht.parts
    obtain ⟨A, c, rfl, -, -⟩ := hsl.shapeT
    simp only [T.head, T.args] at *
    have hb : Below W.heap.size W (W.alloc (.cells #[.int .i64 h, .slice A ar.length c] 24)) := (Below.refl _ _).alloc (Nat.le_refl _) _
    have hI1 := hI.later hb
    have hcv := hI1.cv
    have hcs := hI1.cs
    have hsp := hI1.solv.ptr
    have hki : I64 (-1 - h) := by unfold I64 at *; omega
    have hlk : ∀ W2 : World, Below W.heap.size W W2 → (Instr.lookup 44 (.map (some mb)) (.int .i64 (-1 - h)) true).run Try.prog W2 = .ok (.tuple #[.agg #[.int .i64 0, .slice none 0 0], .bool false]) W2 := fun W2 hW => by
      have := (hI.solv.map.below hW).look Try.underlying44 (Try.zeroValue24 _) hki true
      rw [hI.solv.none_ _ hs] at this
      exact this
    have hlook := hlk _ hb
    have HI := Lib.hid hI
    have HB := Lib.hid hb
    clear hI hb hI1 ht hsl hs hlk
    have hh1 : -9223372036854775808 ≤ h := hi.1
    clear hki hi
    go_enter Try.func54, Try.ntmps54
    by_cases hvv : -1 - h = v
    · have HC := Lib.hid hC
      subst hvv
      clear hv
      go_wp2
      go_ret
      exact ⟨ret_bool (by simp [T.has, h0]), r, Dk, HI.out.later HB.out, .inl rfl, .of_new HB.out⟩
    · have hne : (-1 - h == v) = false := by simp [hvv]
      clear hv hvv
      have HN := Lib.hid hne
      go_wp2
      go_ret
      exact ⟨ret_bool (by simp only [T.has, T.hasL, Bool.or_false]; have := HN.out; simp only [beq_eq_false_iff_ne, ne_eq] at this; simp [this]), r, Dk, HI.out.later (((Below.refl _ _).alloc (Nat.le_refl _) _).alloc (by simp) _), .inl rfl, .of_new (((Below.refl _ _).alloc (Nat.le_refl _) _).alloc (by simp) _)⟩
  | @bound h ar u t' h0 hs hf ih =>
    intro r Dk W x y hI hz ht
    obtain ⟨rfl, hi, hsl⟩ := ht.parts
    obtain ⟨A, c, rfl, -, -⟩ := hsl.shapeT
    simp only [T.head, T.args] at *
    obtain ⟨xu, yu, hDu, hxu⟩ := hI.solv.some_ _ _ hs
    obtain ⟨rfl, hiu, hsu⟩ := hxu.parts
    obtain ⟨Au, cu, rfl, -, -⟩ := hsu.shapeT
    have hb : Below W.heap.size W (W.alloc (.cells #[.int .i64 h, .slice A ar.length c] 24)) := (Below.refl _ _).alloc (Nat.le_refl _) _
    have hb2 : Below W.heap.size W ((W.alloc (.cells #[.int .i64 h, .slice A ar.length c] 24)).alloc (.cells #[.int .i64 u.head, .slice Au u.args.length cu] 24)) := hb.alloc (by simp) _
    have hn2 : ((W.alloc (.cells #[.int .i64 h, .slice A ar.length c] 24)).alloc (.cells #[.int .i64 u.head, .slice Au u.args.length cu] 24)).heap[W.heap.size + 1]? = some (.cells #[.int .i64 u.head, .slice Au u.args.length cu] 24) := by
      have := World.alloc_heap_new (W.alloc (.cells #[.int .i64 h, .slice A ar.length c] 24)) (.cells #[.int .i64 u.head, .slice Au u.args.length cu] 24)
      rwa [World.size_alloc] at this
    have hI1 := hI.later hb
    have hcv := hI1.cv
    have hcs := hI1.cs
    have hsp := hI1.solv.ptr
    have hki : I64 (-1 - h) := by unfold I64 at *; omega
    have hlook : (Instr.lookup 44 (.map (some mb)) (.int .i64 (-1 - h)) true).run Try.prog (W.alloc (.cells #[.int .i64 h, .slice A ar.length c] 24)) = .ok (.tuple #[.agg #[.int .i64 u.head, .slice Au u.args.length cu], .bool true]) (W.alloc (.cells #[.int .i64 h, .slice A ar.length c] 24)) := by
      have := (hI.solv.map.below hb).look Try.underlying44 (Try.zeroValue24 _) hki true
      rw [hDu] at this
      exact this
    have hne : (-1 - h == v) = false := by
      have : ¬ (-1 - h = v) := fun e => by rw [e, hv] at hs; cases hs
      simp [this]
    have hbz : ((W.alloc (.cells #[.int .i64 h, .slice A ar.length c] 24)).alloc (.cells #[.int .i64 u.head, .slice Au u.args.length cu] 24)).heap.size = W.heap.size + 2 := by simp
    have hbk := World.block_lt_of_cell? W _ (cell_of_block hI.ck (j := 0) (v := .map r) rfl)
    have hrk : ∀ k, r = some k → n0 ≤ k ∧ k < W.heap.size := fun k e => ⟨(hI.seen k e).1, (hI.seen k e).2.2.2.2.2.lt⟩
    have hof := of_calls F v sp mb nn s D bv bs bk bl n0 hC r Dk _ (hI.later hb2) (by omega) (-1 - h) (hlow _ _ hs).1 (hlow _ _ hs).2 u t' hs hf 56 #[.pointer (some ⟨bl, 0, none⟩), .pointer (some ⟨W.heap.size + 1, 0, none⟩)] (enters_of Try.func56 (by kernel_rfl) rfl) (fun r1 Dk1 W1 hI1 hR1 hS1 => by
      have hne1 : W.heap.size + 1 ≠ bk ∧ r ≠ some (W.heap.size + 1) := ⟨by simp only at hbk; omega, fun e => by have := hrk _ e; omega⟩
      have hx1 : IsF F W1 u (.int .i64 u.head) (.slice Au u.args.length cu) := (hxu.later hb2).same hS1 (fun k hk => ⟨by have := hC.f k hk; have := hC.hbk; omega, fun e => by have := hC.f k hk; have := hrk _ e; omega⟩)
      refine tell_calls F v sp mb nn s D bv bs bk bl n0 (W.heap.size + 1) r1 Dk1 W1 hI1 u _ _ _ (hS1.cell (p := ⟨W.heap.size + 1, 0, none⟩) hne1 (cell_of_block hn2 (j := 0) rfl)) (hS1.cell (p := ⟨W.heap.size + 1, 1, none⟩) hne1 (cell_of_block hn2 (j := 1) rfl)) hx1 ?_
      exact ih r1 Dk1 W1 _ _ hI1 (by have := hS1.size; omega) hx1)
    have HOF := Lib.hid hof
    have HB2 := Lib.hid hb2
    have hh1 : -9223372036854775808 ≤ h := hi.1
    clear hof hb hb2 hn2 hI1 hI hki hi hxu hsu hiu hDu ht hsl hs hf ih hlow hv hbz hbk hrk
    go_enter Try.func54, Try.ntmps54
    go_wp2_with fail
    refine HOF.out.mono ?_
    rintro e w3 ⟨rfl, r3, Dk3, hI3, hR3, hS3⟩
    have HI3 := Lib.hid hI3
    have HR3 := Lib.hid hR3
    have HS3 := Lib.hid hS3
    clear hI3 hR3 hS3 hlook hcv hcs hsp
    go_wp2
    go_ret
    exact ⟨rfl, r3, Dk3, HI3.out, HR3.out.weak HB2.out.size, (SameOn.of_new HB2.out).trans HS3.out⟩
  | @node h ar ar' h0 hl hf ih =>
    intro r Dk W x y hI hz ht
    obtain ⟨rfl, hi, hsl⟩ := ht.parts
    obtain ⟨A, c, rfl, -, -⟩ := hsl.shapeT
    simp only [T.head, T.args] at *
    have hb : Below W.heap.size W (W.alloc (.cells #[.int .i64 h, .slice A ar.length c] 24)) := (Below.refl _ _).alloc (Nat.le_refl _) _
    have hI1 := hI.later hb
    have hcl := hI1.cl
    unfold lookV at hcl
    have hbz : (W.alloc (.cells #[.int .i64 h, .slice A ar.length c] 24)).heap.size = W.heap.size + 1 := by simp
    have hrk : ∀ k, r = some k → n0 ≤ k := fun k e => (hI.seen k e).1
    have hcon := contains_calls 54 #[.pointer (some ⟨bv, 0, none⟩), .pointer (some ⟨bs, 0, none⟩), .pointer (some ⟨bk, 0, none⟩), .pointer (some ⟨bl, 0, none⟩)] (enters_of Try.func54 (by kernel_rfl) rfl) F ar (.slice A ar.length c) (hasP s v)
      (fun _ W' => ∃ r' Dk', LookI F v sp mb nn s D bv bs bk bl n0 r' Dk' W' ∧ Rok r r' (W.alloc (.cells #[.int .i64 h, .slice A ar.length c] 24)) ∧ SameOn (fun k => k ≠ bk ∧ r ≠ some k) (W.alloc (.cells #[.int .i64 h, .slice A ar.length c] 24)) W')
      (W.alloc (.cells #[.int .i64 h, .slice A ar.length c] 24)) (hsl.later hb) (fun _ W' ⟨_, _, _, _, h⟩ => h.mono fun k hk => ⟨by have := hC.f k hk; have := hC.hbk; omega, fun e => by have := hC.f k hk; have := hrk _ e; omega⟩)
      ⟨r, Dk, hI1, .inl rfl, SameOn.refl _ _⟩ (fun i hi' x y W' ⟨r1, Dk1, hI2, hR2, hS2⟩ hx => by
        refine (ih i hi' (by omega) r1 Dk1 W' x y hI2 (by have := hS2.size; omega) hx).mono ?_
        rintro e W3 ⟨rfl, r3, Dk3, hI3, hR3, hS3⟩
        refine ⟨ret_bool ?_, r3, Dk3, hI3, hR2.trans hR3 hS2.size, look_trans hS2 hR2 hS3⟩
        rw [hasP_eq (hf i hi' (by omega))])
    have HCON := Lib.hid hcon
    have HB := Lib.hid hb
    have HANY := Lib.hid (hasP_any (v := v) hl hf)
    clear hcon hb hbz hI1 hI hrk hsl ht hf ih hlow hv hl hi
    go_enter Try.func54, Try.ntmps54
    go_wp2_with fail
    refine HCON.out.mono ?_
    rintro e w3 ⟨rfl, j, -, r3, Dk3, hI3, hR3, hS3⟩
    rw [HANY.out]
    have HI3 := Lib.hid hI3
    have HR3 := Lib.hid hR3
    have HS3 := Lib.hid hS3
    clear hI3 hR3 hS3 hcl
    go_wp2
    go_ret
    refine ⟨ret_bool ?_, r3, Dk3, HI3.out, HR3.out.weak HB.out.size, (SameOn.of_new HB.out).trans HS3.out⟩
    have : decide (h < 0) = false := by simpa using h0
    simp only [T.has, this, Bool.false_and, Bool.false_or]
end Go.Proofs.Ytokhnlhffnidmaa
