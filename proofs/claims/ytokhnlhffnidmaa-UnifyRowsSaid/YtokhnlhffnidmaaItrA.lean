/- slices.Backward: a row's elements from the end. -/
import Derived.Test.YtokhnlhffnidmaaRng
import Derived.Shelf.Abstract
import Derived.OwnWalkIn
import Derived.TacticsInMore
import Derived.Deep.CutBlock
import Derived.Deep.DeepCutAuto
import Derived.Outline
namespace Go.Proofs.Ytokhnlhffnidmaa
open Go.RowKit Elen

/-- a number and a term -/
def encT (F : Nat → Prop) (t : T) (w : World) (args : Array Value) : Prop := ∃ (i : Int) (x y : Value), args = #[.int .i64 i, .agg #[x, y]] ∧ IsF F w t x y

theorem wp_region_wide {P : Program} {Q : Exit → Act → World → Prop} {id : Nat} {l : List Oper} {a : Act} {w : World} (h : wpListIn Fence.wide 1 P l.toArray Q l a w) : (Code.region id l.toArray false).wp P Q a w :=
  (wpIn_wide (n := 1)).1 (wpIn_region_lit h)

set_option maxHeartbeats 400000 in
theorem backward1_seq (Fe Fr : Nat → Prop) (hFe : ∀ k, Fe k → Fr k) (l : List T) (v : Value) (bb : Nat) (W0 : World) (hl : Sl KT Fe W0 l v) (hb : W0.cell? ⟨bb, 0, none⟩ = some v) (hFb : Fr bb) :
    SeqAll Try.prog 53 #[.pointer (some ⟨bb, 0, none⟩)] (encT Fe) Fr l.reverse W0 := by
  intro ly J F W hW hFr hFW hJ hY U0 h0 hU0 hUW
  have hl1 := hl.later hW
  have hb1 := cell_kept hW hb
  clear hl hb hW
  obtain ⟨A, c, rfl, hc1, hc2⟩ := hl1.shape
  have HL := Lib.hid hl1
  have HJ := Lib.hid hJ
  have HY := Lib.hid hY
  have H0 := Lib.hid h0
  have HFr := Lib.hid hFr
  have HU0 := Lib.hid hU0
  have HUW := Lib.hid hUW
  have HFW := Lib.hid hFW
  have hm : l.length ≤ 4398046511104 := by have e : (KT).by_ = 32 := rfl; rw [e] at hc2; omega
  clear hl1 hJ hY h0 hc2 hFr hU0 hUW hFW
  go_enter Try.func53, Try.ntmps53
  go_wp2_with fail
  go_loopg [3] (l.length + 1) (fun k i wr => ∃ (d : Nat) (U : Nat → Prop), d + 1 = k ∧ d ≤ l.length ∧ i = .int .i64 ((d : Int) - 1) ∧ J (l.reverse.take (l.length - d)) U wr ∧ SameOn F W wr ∧ (∀ k, F k → ¬ U k) ∧ ∀ k, U k → k < wr.heap.size)
  case atStart => exact ⟨l.length, U0, rfl, Nat.le_refl _, rfl, by simpa using H0.out, SameOn.refl _ _, HU0.out, HUW.out⟩
  case round =>
    obtain ⟨d, U, hdk, hdl, rfl, hj, hk, hFU, hUw⟩ := hrel
    have HK := Lib.hid hk
    have HJ1 := Lib.hid hj
    have HFU := Lib.hid hFU
    have HUw := Lib.hid hUw
    clear hk hj hFU hUw
    cases d with
    | zero =>
      go_wp2
      go_end0
      exact ⟨⟨_, rfl⟩, U, by have := HJ1.out; rwa [List.take_of_length_le (by simp)] at this⟩
    | succ d =>
      have e1 : ((d + 1 : Nat) : Int) - 1 = (d : Int) := by omega
      rw [e1]
      clear e1
      have hb2 := HK.out.cell (HFr.out _ hFb) hb1
      have hl2 := HL.out.same HK.out (fun k hk => HFr.out k (hFe k hk))
      have hd : d < l.length := by omega
      obtain ⟨b, o, rfl, hFb, hlt, hcs⟩ := hl2.cells (by omega)
      obtain ⟨x, y, k0, k1, hx⟩ := hcs d hd
      have htk : l.reverse.take (l.length - (d + 1)) ++ [l[d]] = l.reverse.take (l.length - d) := by
        rw [show l.length - d = (l.length - (d + 1)) + 1 from by omega, List.take_add_one, List.getElem?_eq_getElem (by simp; omega)]
        simp only [List.getElem_reverse, Option.toList_some]
        congr 2
        simp only [show l.length - 1 - (l.length - (d + 1)) = d from by omega]
      obtain ⟨fn, tmps, assign, body, hy, hR⟩ := yield_in (HY.out _ l[d] #[.int .i64 (d : Int), .agg #[x, y]] wr U HJ1.out HFU.out HUw.out (by rw [htk]; exact List.take_prefix _ _) ⟨_, _, _, rfl, hx⟩) 0
      rw [htk] at hR
      have HR := Lib.hid hR
      clear hb1 hl2 hcs htk hR
      go_upto_region 3 with fail
      refine wp_region_wide ?_
      gi_wp2
      refine HR.out.mono ?_
      rintro e B ⟨rfl, U', hJ2, hs1, hs2, hs3⟩
      have HJ2 := Lib.hid hJ2
      have HK2 := Lib.hid (HK.out.trans (hs1.mono HFU.out))
      have HFU2 : Hid (∀ k, F k → ¬ U' k) := by
        have : ∀ k, F k → ¬ U' k := fun k hk h => by
          rcases hs2 k h with h | h
          · exact HFU.out k hk h
          · have := HFW.out k hk; have := HK.out.size; omega
        exact this
      have HS3 := Lib.hid hs3
      clear hJ2 hs1 hs2 hs3 hy k0 k1 hb2
      gi_wp2
      go_wp2
      go_roundg (d + 1)
      case rel => exact ⟨d, U', rfl, by omega, rfl, HJ2.out, HK2.out, HFU2.out, HS3.out⟩
      case measure => omega

theorem backward_calls (F : Nat → Prop) (l : List T) (v : Value) (w : World) (hl : Sl KT F w l v) :
    Calls Try.prog 45 #[v] w fun e w1 => e = .returned (.func (.func 53) #[] #[.pointer (some ⟨w.heap.size, 0, none⟩)]) ∧ w1 = w.alloc (.cells #[v] 22) := by
  obtain ⟨A, c, rfl, hc1, hc2⟩ := hl.shape
  clear hl hc1 hc2
  go_enter Try.func45, Try.ntmps45
  go_wp2
  go_ret
  exact ⟨rfl, rfl⟩
end Go.Proofs.Ytokhnlhffnidmaa
