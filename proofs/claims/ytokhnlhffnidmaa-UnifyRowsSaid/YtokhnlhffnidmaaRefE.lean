/- The net's check, its terms. -/
import Derived.Test.YtokhnlhffnidmaaRefD
import Derived.Test.YtokhnlhffnidmaaMixP
import Derived.Deep.OwnRows
namespace Go.Proofs.Ytokhnlhffnidmaa
open Go.RowKit Elen

def ncheck (t : T) : Int := if 400 < t.size then 2 else if 40 < t.depth then 7 else 0

theorem made_known (W : World) (n : Nat) : KnownAt (W.alloc (.cells (madeCells #[.int .i64 0] n) 3)) W.heap.size (List.replicate n 0) := by
  have e : madeCells #[.int .i64 0] n = ((List.replicate n 0).map fun n : Nat => Value.int .i64 (n : Int)).toArray := by
    apply Array.ext
    · simp [madeCells]
    · intro i h1 h2; simp [madeCells, Nat.mod_one]
  unfold KnownAt
  rw [← e]
  exact heap_alloc_new _ _

theorem sizeInv_zero (N : List Nd) (s : Sub) (n : Nat) : SizeInv N s (List.replicate n 0) := by
  intro y k ty fy hy hk
  rw [List.getElem?_replicate] at hy
  split at hy
  · cases hy; exact absurd rfl hk
  · cases hy
theorem depthInv_zero (N : List Nd) (s : Sub) (n : Nat) : DepthInv N s (List.replicate n 0) := by
  intro y k ty fy hy hk
  rw [List.getElem?_replicate] at hy
  split at hy
  · cases hy; exact absurd rfl hk
  · cases hy

set_option maxRecDepth 100000 in
set_option maxHeartbeats 2000000 in
theorem ncheck_calls (F : Nat → Prop) (N : List Nd) (s : Sub) (hn : Net N) (hr : Rep N s) (gn g cap x : Nat) (t t' : T) (w : World) (hd : Den N x t) (hf : Full s t t') (hN : NetR F w gn g cap N) (hp : 0 < N.length) :
    Calls Try.prog 24 #[.pointer (some ⟨gn, 0, none⟩), .int .i64 (x : Int)] w fun e w' => e = .returned (.int .i64 (ncheck t')) ∧ Below w.heap.size w w' := by
  have kc := hN.1
  have hnl := hN.2.1
  have HN := Lib.hid (hN.bound hp)
  have HD := Lib.hid hd
  have HF := Lib.hid hf
  clear hN hd hf
  have hmk : ∀ W : World, (Instr.makeSlice 59 (.int .i64 (N.length : Int)) (.int .i64 (N.length : Int))).run Try.prog W = .ok (.slice (some ⟨W.heap.size, 0, none⟩) N.length N.length) (W.alloc (.cells (madeCells #[.int .i64 0] N.length) 3)) := fun W =>
    run_make_row' 59 3 (.int .i64 0) 8 Try.underlying59 (by kernel_rfl) rfl .i64 .i64 N.length (by omega) (by omega) W
  go_enter Try.func24, Try.ntmps24
  go_wp2_with fail
  have hb1 : Below w.heap.size w (w.alloc (.cells (madeCells #[.int .i64 0] N.length) 3)) := (Below.refl _ _).alloc (Nat.le_refl _) _
  have HB1 := Lib.hid hb1
  clear hb1
  have hn1 : NetR (· ≠ w.heap.size) (w.alloc (.cells (madeCells #[.int .i64 0] N.length) 3)) gn g cap N := NetR.mono (fun b h e => by have := h.2; omega) (HN.out.later HB1.out)
  refine (nsize_calls N s hn hr gn g cap w.heap.size t'.size x t t' (List.replicate N.length 0) _ (Nat.le_refl _) HD.out HF.out hn1 (made_known w N.length) (by simp) (sizeInv_zero N s _)).mono ?_
  rintro e w2 ⟨S2, rfl, hG2, -, -, -⟩
  have hb2 : Below w.heap.size w w2 := HB1.out.grown hG2 (by simp) (fun k e => by cases e; exact Nat.le_refl _)
  have HB2 := Lib.hid hb2
  clear hb2 hG2 hn1
  have kc2 := cell_kept HB2.out kc
  by_cases g1 : 400 < t'.size
  · have hm : min t'.size 401 = 401 := by omega
    rw [hm]
    have hf : Hid (ncheck t' = 2) := by unfold ncheck; rw [if_pos g1]; exact rfl
    clear kc hm
    go_wp2
    go_ret
    exact ⟨ret_int hf.out.symm, HB2.out⟩
  · have hm : ¬ (400 : Int) < ((min t'.size 401 : Nat) : Int) := by omega
    generalize ((min t'.size 401 : Nat) : Int) = q at *
    clear kc
    go_wp2_with fail
    have hb3 : Below w2.heap.size w2 (w2.alloc (.cells (madeCells #[.int .i64 0] N.length) 3)) := (Below.refl _ _).alloc (Nat.le_refl _) _
    have HB3 := Lib.hid hb3
    clear hb3
    have hn3 : NetR (· ≠ w2.heap.size) (w2.alloc (.cells (madeCells #[.int .i64 0] N.length) 3)) gn g cap N := NetR.mono (fun b h e => by have := h.2; omega) (((HN.out.later HB2.out).bound hp).later HB3.out)
    refine (ndepth_calls N s hn hr gn g cap w2.heap.size t'.size x t t' (List.replicate N.length 0) _ (Nat.le_refl _) HD.out HF.out hn3 (made_known w2 N.length) (by simp) (depthInv_zero N s _)).mono ?_
    rintro e w4 ⟨S4, rfl, hG4, -, -, -⟩
    have hb4 : Below w2.heap.size w2 w4 := HB3.out.grown hG4 (by simp) (fun k e => by cases e; exact Nat.le_refl _)
    have HB4 := Lib.hid (below_then HB2.out HB2.out.size hb4)
    clear hb4 hG4 hn3
    by_cases g2 : 40 < t'.depth
    · have hm2 : min t'.depth 41 = 41 := by omega
      rw [hm2]
      have hf : Hid (ncheck t' = 7) := by unfold ncheck; rw [if_neg g1, if_pos g2]; exact rfl
      clear hm2 kc2
      go_wp2
      go_ret
      exact ⟨ret_int hf.out.symm, HB4.out⟩
    · have hm2 : ¬ (40 : Int) < ((min t'.depth 41 : Nat) : Int) := by omega
      generalize ((min t'.depth 41 : Nat) : Int) = q2 at *
      have hf : Hid (ncheck t' = 0) := by unfold ncheck; rw [if_neg g1, if_neg g2]; exact rfl
      clear kc2
      go_wp2
      go_ret
      exact ⟨ret_int hf.out.symm, HB4.out⟩
end Go.Proofs.Ytokhnlhffnidmaa
