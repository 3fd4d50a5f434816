/- Unify.Mgu. -/
import Derived.Test.YtokhnlhffnidmaaUniL
namespace Go.Proofs.Ytokhnlhffnidmaa
open Go.RowKit Go.Shelf Elen

theorem Sl.one {F : Nat → Prop} {w : World} {t : T} {x y : Value} (h : IsF F w t x y) (hF : F w.heap.size) : Sl KT F (w.alloc (.cells #[x, y] 24)) [t] (.slice (some ⟨w.heap.size, 0, none⟩) 1 1) :=
  ⟨_, 1, rfl, Nat.le_refl _, by have e : (KT).by_ = 32 := rfl; rw [e]; simp, fun _ => ⟨_, 0, rfl, hF, row_of_block (K := KT) ⟨_, _, rfl, h⟩ _⟩⟩

set_option maxRecDepth 100000 in
set_option maxHeartbeats 1000000 in
theorem umgu_calls (a b : T) (va vb : Value) (w : World) (ha : IsV w a va) (hb : IsV w b vb) (hz : 1 + 8 * (a.size + b.size) ≤ 1000000) (r : Option Sub) (hr : wrongs [a] [b] = false → Run (fun _ => none) [(a, b)] r) :
    Calls Try.prog 6 #[va, vb] w (AllPost (allR [a] [b] r) w) := by
  obtain ⟨xa, ya, rfl, ha⟩ := ha
  obtain ⟨xb, yb, rfl, hb⟩ := hb
  obtain ⟨rfl, hia, hsa⟩ := ha.parts
  obtain ⟨A, ca, rfl, -, -⟩ := hsa.shapeT
  obtain ⟨rfl, hib, hsb⟩ := hb.parts
  obtain ⟨B, cb, rfl, -, -⟩ := hsb.shapeT
  have HA := Lib.hid ha
  have HB := Lib.hid hb
  have HR := Lib.hid hr
  clear ha hb hr hsa hsb
  go_enter Try.func6, Try.ntmps6
  go_upto_region 1 with fail
  have hb1 : Below w.heap.size w ((w.alloc (.cells #[.int .i64 a.head, .slice A a.args.length ca] 24)).alloc (.cells #[.int .i64 b.head, .slice B b.args.length cb] 24)) := allocs_below [.cells #[.int .i64 a.head, .slice A a.args.length ca] 24, .cells #[.int .i64 b.head, .slice B b.args.length cb] 24] _ (Nat.le_refl _)
  have g0 : ((w.alloc (.cells #[.int .i64 a.head, .slice A a.args.length ca] 24)).alloc (.cells #[.int .i64 b.head, .slice B b.args.length cb] 24)).heap[w.heap.size]? = some (.cells #[.int .i64 a.head, .slice A a.args.length ca] 24) := allocs_get [.cells #[.int .i64 a.head, .slice A a.args.length ca] 24, .cells #[.int .i64 b.head, .slice B b.args.length cb] 24] w 0 (by simp)
  have g1 : ((w.alloc (.cells #[.int .i64 a.head, .slice A a.args.length ca] 24)).alloc (.cells #[.int .i64 b.head, .slice B b.args.length cb] 24)).heap[w.heap.size + 1]? = some (.cells #[.int .i64 b.head, .slice B b.args.length cb] 24) := allocs_get [.cells #[.int .i64 a.head, .slice A a.args.length ca] 24, .cells #[.int .i64 b.head, .slice B b.args.length cb] 24] w 1 (by simp)
  have hz1 : ((w.alloc (.cells #[.int .i64 a.head, .slice A a.args.length ca] 24)).alloc (.cells #[.int .i64 b.head, .slice B b.args.length cb] 24)).heap.size = w.heap.size + 2 := by simp
  generalize ((w.alloc (.cells #[.int .i64 a.head, .slice A a.args.length ca] 24)).alloc (.cells #[.int .i64 b.head, .slice B b.args.length cb] 24)) = W1 at *
  have k00 := cell_of_block g0 (j := 0) (v := .int .i64 a.head) rfl
  have k01 := cell_of_block g0 (j := 1) (v := .slice A a.args.length ca) rfl
  have k10 := cell_of_block g1 (j := 0) (v := .int .i64 b.head) rfl
  have k11 := cell_of_block g1 (j := 1) (v := .slice B b.args.length cb) rfl
  have hb2 : Below W1.heap.size W1 (W1.alloc (.cells #[.int .i64 a.head, .slice A a.args.length ca] 24)) := (Below.refl _ _).alloc (Nat.le_refl _) _
  have hb3 : Below W1.heap.size W1 ((W1.alloc (.cells #[.int .i64 a.head, .slice A a.args.length ca] 24)).alloc (.cells #[.int .i64 b.head, .slice B b.args.length cb] 24)) := hb2.alloc (by simp) _
  have hsA : Sl KT Any ((W1.alloc (.cells #[.int .i64 a.head, .slice A a.args.length ca] 24)).alloc (.cells #[.int .i64 b.head, .slice B b.args.length cb] 24)) [a] (.slice (some ⟨W1.heap.size, 0, none⟩) 1 1) := (Sl.one (HA.out.later hb1) trivial).later ((Below.refl _ _).alloc (Nat.le_refl _) _)
  have hsB : Sl KT Any ((W1.alloc (.cells #[.int .i64 a.head, .slice A a.args.length ca] 24)).alloc (.cells #[.int .i64 b.head, .slice B b.args.length cb] 24)) [b] (.slice (some ⟨W1.heap.size + 1, 0, none⟩) 1 1) := by
    have := Sl.one ((HB.out.later hb1).later hb2) trivial
    rw [World.size_alloc] at this
    exact this
  have hcall := uall_calls Any [a] [b] _ _ _ hsA hsB (by simp only [List.length_cons, List.length_nil, T.sizeL]; omega) r HR.out
  have hb3w := hb1.trans (hb3.mono (by omega))
  have HB3 := Lib.hid hb3w
  have HC := Lib.hid hcall
  have hz2 : w.heap.size + 1 < W1.heap.size := by omega
  clear hcall hsA hsB hb3 hb2 g0 g1 hb3w hz1
  have hsz : w.heap.size ≤ ((W1.alloc (.cells #[.int .i64 a.head, .slice A a.args.length ca] 24)).alloc (.cells #[.int .i64 b.head, .slice B b.args.length cb] 24)).heap.size := HB3.out.size
  have HSZ := Lib.hid hsz
  clear hsz
  go_wp2_with fail
  refine HC.out.mono ?_
  rintro e w2 ⟨v, rfl, hs, hb⟩
  obtain ⟨Ao, co, rfl, -, -⟩ := hs.shape
  have HS := Lib.hid hs
  have HBB := Lib.hid hb
  clear hs hb
  go_wp2
  go_ret3
  exact ⟨_, rfl, HS.out.mono (fun k hk => Nat.le_trans HSZ.out hk), HB3.out.trans (HBB.out.mono HSZ.out)⟩
end Go.Proofs.Ytokhnlhffnidmaa
