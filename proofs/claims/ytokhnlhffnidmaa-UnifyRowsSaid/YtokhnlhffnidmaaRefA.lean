/- The reference's functions of layer 1 return what their Lean functions compute. -/
import Derived.Test.YtokhnlhffnidmaaBase
import Derived.Test.YtokhnlhffnidmaaPlainB
namespace Go.Proofs.Ytokhnlhffnidmaa
open Go.RowKit Elen

set_option maxHeartbeats 400000 in
theorem count_calls (t : T) : ∀ (most : Int) (v : Value) (w : World), IsV w t v → 0 ≤ most → most ≤ 1000 →
    Calls Try.prog 12 #[v, .int .i64 most] w fun e w' => e = .returned (.int .i64 (T.count t most)) ∧ Below w.heap.size w w' := by
  induction t using T.ind with
  | h hd ar ih =>
  intro most v w hv hm0 hm
  obtain ⟨x, y, rfl, ht⟩ := hv
  obtain ⟨rfl, -, hl⟩ := ht.parts
  obtain ⟨A, c, rfl, hc1, hc2⟩ := hl.shapeT
  simp only [T.head_mk, T.args_mk] at *
  have HL := Lib.hid hl
  have IH := Lib.hid ih
  clear hl ht ih
  go_enter Try.func12, Try.ntmps12
  go_wp2
  go_loopg [5, 6] (ar.length + 1) (fun k n i wr => ∃ (d : Nat) (x : Int), d + k = ar.length + 1 ∧ i = .int .i64 d ∧ n = .int .i64 x ∧ 1 ≤ x ∧ x ≤ most + 1 ∧ T.countL (ar.drop d) x most = T.countL ar 1 most ∧ Below w.heap.size w wr ∧ w.heap.size < wr.heap.size ∧ wr.cell? ⟨w.heap.size, 0, none⟩ = some (.int .i64 hd) ∧ wr.cell? ⟨w.heap.size, 1, none⟩ = some (.slice A ar.length c))
  case atStart => exact ⟨0, 1, by omega, rfl, rfl, by omega, by omega, rfl, (Below.refl _ _).alloc (Nat.le_refl _) _, by simp, by go_simp, by go_simp⟩
  case round =>
    obtain ⟨d, x, hd, rfl, rfl, hx1, hx2, hc, hB, hz, hc0, hc1⟩ := hrel
    have HC := Lib.hid hc; clear hc
    by_cases hlt : d < ar.length
    · by_cases hn : x ≤ most
      · obtain ⟨b, o, rfl, -, hb, hcell⟩ := HL.out.cells (by omega)
        obtain ⟨p, q, hp, hq, ht⟩ := hcell d hlt
        have hp' := cell_kept hB hp
        have hq' := cell_kept hB hq
        have HT := Lib.hid (VF.of_ (ht.later hB))
        clear ht hp hq hcell
        have hcl := T.count_le ar[d] (most - x) (by omega)
        go_wp2_with fail
        refine (IH.out _ (List.getElem_mem hlt) _ _ _ HT.out (by omega) (by omega)).mono ?_
        rintro e w1 ⟨rfl, hB1⟩
        obtain ⟨hk, -⟩ := bcell hB1
        go_wp2
        go_roundg (gk - 1)
        case rel =>
          exact ⟨d + 1, x + T.count ar[d] (most - x), by omega, by go_num, rfl, by omega, by omega, by rw [← HC.out, T.countL_drop hlt _ _ hn], below_then hB (by omega) hB1, by have := hB1.size; omega, by rw [hk _ _ hz]; assumption, by rw [hk _ _ hz]; assumption⟩
        case measure => omega
      · go_wp2
        go_ret
        refine ⟨ret_int ?_, hB⟩
        have := HC.out
        rw [T.countL_stop _ _ _ (by omega)] at this
        simp only [T.count]; rw [← this]
    · go_wp2
      go_ret
      refine ⟨ret_int ?_, hB⟩
      have := HC.out
      rw [List.drop_eq_nil_of_le (by omega)] at this
      simp only [T.count]; rw [← this]; rfl

set_option maxHeartbeats 400000 in
theorem size_calls (t : T) : ∀ (v : Value) (w : World), IsV w t v → t.size ≤ 1000000000 →
    Calls Try.prog 42 #[v] w fun e w' => e = .returned (.int .i64 (t.size : Int)) ∧ Below w.heap.size w w' := by
  induction t using T.ind with
  | h hd ar ih =>
  intro v w hv hsz
  obtain ⟨x, y, rfl, ht⟩ := hv
  obtain ⟨rfl, -, hl⟩ := ht.parts
  obtain ⟨A, c, rfl, hc1, hc2⟩ := hl.shapeT
  simp only [T.head_mk, T.args_mk] at *
  have HL := Lib.hid hl
  have IH := Lib.hid ih
  have hsz' : T.sizeL ar + 1 ≤ 1000000000 := by simpa [T.size] using hsz
  have HS := Lib.hid hsz
  clear hl ht ih hsz
  go_enter Try.func42, Try.ntmps42
  go_wp2
  go_loopg [3, 4] (ar.length + 1) (fun k n i wr => ∃ (d : Nat) (x : Nat), d + k = ar.length + 1 ∧ i = .int .i64 d ∧ n = .int .i64 (x : Int) ∧ x + T.sizeL (ar.drop d) = T.size (.mk hd ar) ∧ Below w.heap.size w wr ∧ w.heap.size < wr.heap.size ∧ wr.cell? ⟨w.heap.size, 0, none⟩ = some (.int .i64 hd) ∧ wr.cell? ⟨w.heap.size, 1, none⟩ = some (.slice A ar.length c))
  case atStart => exact ⟨0, 1, by omega, rfl, rfl, by simp [T.size]; omega, (Below.refl _ _).alloc (Nat.le_refl _) _, by simp, by go_simp, by go_simp⟩
  case round =>
    obtain ⟨d, x, hd, rfl, rfl, hc, hB, hz, hc0, hc1⟩ := hrel
    have hx : x ≤ 1000000000 := by have := HS.out; omega
    have HC := Lib.hid hc; clear hc
    by_cases hlt : d < ar.length
    · obtain ⟨b, o, rfl, -, hb, hcell⟩ := HL.out.cells (by omega)
      obtain ⟨p, q, hp, hq, ht⟩ := hcell d hlt
      have hp' := cell_kept hB hp
      have hq' := cell_kept hB hq
      have HT := Lib.hid (VF.of_ (ht.later hB))
      clear ht hp hq hcell
      have hsd := T.sizeL_drop hlt
      have hle : T.size ar[d] ≤ 1000000000 := by have := HC.out; have := HS.out; omega
      have HSD := Lib.hid hsd; clear hsd
      go_wp2_with fail
      refine (IH.out _ (List.getElem_mem hlt) _ _ HT.out hle).mono ?_
      rintro e w1 ⟨rfl, hB1⟩
      obtain ⟨hk, -⟩ := bcell hB1
      have hle2 : (x : Int) + (T.size ar[d] : Int) ≤ 1000000000 := by have := HC.out; have := HS.out; have := HSD.out; omega
      go_wp2
      go_roundg (gk - 1)
      case rel =>
        exact ⟨d + 1, x + T.size ar[d], by omega, by go_num, by go_num, by have := HC.out; have := HSD.out; omega, below_then hB (by omega) hB1, by have := hB1.size; omega, by rw [hk _ _ hz]; assumption, by rw [hk _ _ hz]; assumption⟩
      case measure => omega
    · go_wp2
      go_ret
      refine ⟨ret_int ?_, hB⟩
      have := HC.out
      rw [List.drop_eq_nil_of_le (by omega)] at this
      simp only [T.sizeL] at this
      omega

set_option maxHeartbeats 400000 in
theorem depth_calls (t : T) : ∀ (v : Value) (w : World), IsV w t v → t.size ≤ 1000000000 →
    Calls Try.prog 60 #[v] w fun e w' => e = .returned (.int .i64 (t.depth : Int)) ∧ Below w.heap.size w w' := by
  induction t using T.ind with
  | h hd ar ih =>
  intro v w hv hsz
  obtain ⟨x, y, rfl, ht⟩ := hv
  obtain ⟨rfl, -, hl⟩ := ht.parts
  obtain ⟨A, c, rfl, hc1, hc2⟩ := hl.shapeT
  simp only [T.head_mk, T.args_mk] at *
  have HL := Lib.hid hl
  have IH := Lib.hid ih
  have HS := Lib.hid hsz
  have HM : Hid (∀ a, a ∈ ar → T.size a ≤ 1000000000) := fun a ha => by have := T.size_lt (h := hd) ha; have := HS.out; omega
  have HD : Hid (T.depthL ar ≤ 1000000000) := by have := T.depth_le (.mk hd ar); have := HS.out; simp only [T.depth] at *; exact (by omega : T.depthL ar ≤ 1000000000)
  clear hl ht ih hsz
  go_enter Try.func60, Try.ntmps60
  go_wp2
  go_loopg [3, 4] (ar.length + 1) (fun k n i wr => ∃ (d : Nat) (x : Nat), d + k = ar.length + 1 ∧ i = .int .i64 d ∧ n = .int .i64 (x : Int) ∧ max x (T.depthL (ar.drop d)) = T.depthL ar ∧ Below w.heap.size w wr ∧ w.heap.size < wr.heap.size ∧ wr.cell? ⟨w.heap.size, 0, none⟩ = some (.int .i64 hd) ∧ wr.cell? ⟨w.heap.size, 1, none⟩ = some (.slice A ar.length c))
  case atStart => exact ⟨0, 0, by omega, rfl, rfl, by simp, (Below.refl _ _).alloc (Nat.le_refl _) _, by simp, by go_simp, by go_simp⟩
  case round =>
    obtain ⟨d, x, hd, rfl, rfl, hc, hB, hz, hc0, hc1⟩ := hrel
    have hx : x ≤ 1000000000 := by have := HD.out; omega
    have HC := Lib.hid hc; clear hc
    by_cases hlt : d < ar.length
    · obtain ⟨b, o, rfl, -, hb, hcell⟩ := HL.out.cells (by omega)
      obtain ⟨p, q, hp, hq, ht⟩ := hcell d hlt
      have hp' := cell_kept hB hp
      have hq' := cell_kept hB hq
      have HT := Lib.hid (VF.of_ (ht.later hB))
      clear ht hp hq hcell
      have HSD := Lib.hid (T.depthL_drop hlt)
      go_wp2_with fail
      refine (IH.out _ (List.getElem_mem hlt) _ _ HT.out (HM.out _ (List.getElem_mem hlt))).mono ?_
      rintro e w1 ⟨rfl, hB1⟩
      obtain ⟨hk, -⟩ := bcell hB1
      go_wp2
      all_goals
        go_roundg (gk - 1)
        case rel =>
          exact ⟨d + 1, max x (T.depth ar[d]), by omega, by go_num, by congr 1; omega, by have := HC.out; have := HSD.out; omega, below_then hB (by omega) hB1, by have := hB1.size; omega, by rw [hk _ _ hz]; assumption, by rw [hk _ _ hz]; assumption⟩
        case measure => omega
    · go_wp2
      go_ret
      refine ⟨ret_int ?_, hB⟩
      have := HC.out
      rw [List.drop_eq_nil_of_le (by omega)] at this
      simp only [T.depthL] at this
      simp only [T.depth]
      omega

set_option maxHeartbeats 400000 in
theorem good_calls (t : T) : ∀ (v : Value) (w : World), IsV w t v →
    Calls Try.prog 61 #[v] w fun e w' => e = .returned (.bool t.good) ∧ Below w.heap.size w w' := by
  induction t using T.ind with
  | h hd ar ih =>
  intro v w hv
  obtain ⟨x, y, rfl, ht⟩ := hv
  obtain ⟨rfl, -, hl⟩ := ht.parts
  obtain ⟨A, c, rfl, hc1, hc2⟩ := hl.shapeT
  simp only [T.head_mk, T.args_mk] at *
  have HL := Lib.hid hl
  have IH := Lib.hid ih
  clear hl ht ih
  by_cases hok : okHere hd ar.length = true
  · have hok2 := hok
    simp only [okHere, Bool.and_eq_true, Bool.not_eq_true', Bool.and_eq_false_iff, decide_eq_false_iff_not] at hok2
    obtain ⟨⟨⟨h1, h2⟩, h3⟩, h4⟩ := hok2
    have HO := Lib.hid hok; clear hok
    by_cases a1 : hd < 0
    · obtain rfl : ar = [] := by
        cases ar with
        | nil => rfl
        | cons a ar => simp only [List.length_cons] at h1; omega
      clear h1
      have hfin : Hid (T.good (.mk hd []) = true) := by
        have : T.good (.mk hd []) = true := by simp only [T.good]; rw [HO.out]; rfl
        exact this
      simp only [List.length_nil] at *
      go_enter Try.func61, Try.ntmps61
      go_wp2
      refine wp_loop_once ?_
      go_wp2
      go_ret
      exact ⟨ret_bool hfin.out.symm, (Below.refl _ _).alloc (Nat.le_refl _) _⟩
    · clear h1
      go_enter Try.func61, Try.ntmps61
      go_wp2
      go_loopg [3] (ar.length + 1) (fun k i wr => ∃ (d : Nat), d + k = ar.length + 1 ∧ i = .int .i64 d ∧ T.goodL (ar.drop d) = T.goodL ar ∧ Below w.heap.size w wr ∧ w.heap.size < wr.heap.size ∧ wr.cell? ⟨w.heap.size, 0, none⟩ = some (.int .i64 hd) ∧ wr.cell? ⟨w.heap.size, 1, none⟩ = some (.slice A ar.length c))
      case atStart => exact ⟨0, by omega, rfl, rfl, (Below.refl _ _).alloc (Nat.le_refl _) _, by simp, by go_simp, by go_simp⟩
      case round =>
        obtain ⟨d, hd, rfl, hc, hB, hz, hc0, hc1⟩ := hrel
        have HC := Lib.hid hc; clear hc
        by_cases hlt : d < ar.length
        · obtain ⟨b, o, rfl, -, hb, hcell⟩ := HL.out.cells (by omega)
          obtain ⟨p, q, hp, hq, ht⟩ := hcell d hlt
          have hp' := cell_kept hB hp
          have hq' := cell_kept hB hq
          have HT := Lib.hid (VF.of_ (ht.later hB))
          clear ht hp hq hcell
          have HSD := Lib.hid (T.goodL_drop hlt)
          go_wp2_with fail
          refine (IH.out _ (List.getElem_mem hlt) _ _ HT.out).mono ?_
          rintro e w1 ⟨rfl, hB1⟩
          obtain ⟨hk, -⟩ := bcell hB1
          rcases hg : T.good ar[d] with _ | _
          · have HG := Lib.hid hg; clear hg
            go_wp2
            go_ret
            refine ⟨ret_bool ?_, below_then hB (by omega) hB1⟩
            have := HC.out; have := HSD.out
            simp only [T.good]
            rw [HO.out, ← HC.out, HSD.out, HG.out]; rfl
          · have HG := Lib.hid hg; clear hg
            go_wp2
            go_roundg (gk - 1)
            case rel =>
              exact ⟨d + 1, by omega, by go_num, by rw [← HC.out, HSD.out, HG.out]; rfl, below_then hB (by omega) hB1, by have := hB1.size; omega, by rw [hk _ _ hz]; assumption, by rw [hk _ _ hz]; assumption⟩
            case measure => omega
        · go_wp2
          go_ret
          refine ⟨ret_bool ?_, hB⟩
          have := HC.out
          rw [List.drop_eq_nil_of_le (by omega)] at this
          simp only [T.good]
          rw [HO.out, ← this]; rfl
  · have hok2 : okHere hd ar.length = false := by simpa using hok
    have HO := Lib.hid hok2
    clear hok
    simp only [okHere, Bool.and_eq_false_iff, Bool.not_eq_false', Bool.and_eq_true, decide_eq_true_eq] at hok2
    have hfin : Hid (T.good (.mk hd ar) = false) := by
      have : T.good (.mk hd ar) = false := by simp only [T.good]; rw [HO.out]; rfl
      exact this
    by_cases a1 : hd < 0 <;> by_cases a2 : 0 < ar.length <;> by_cases a3 : hd < -256 <;> by_cases a4 : 1023 < hd <;> by_cases a5 : 8 < ar.length
    all_goals first
      | (exfalso; omega)
      | (clear hok2
         go_enter Try.func61, Try.ntmps61
         go_wp2
         go_ret
         exact ⟨ret_bool hfin.out.symm, (Below.refl _ _).alloc (Nat.le_refl _) _⟩)
end Go.Proofs.Ytokhnlhffnidmaa
