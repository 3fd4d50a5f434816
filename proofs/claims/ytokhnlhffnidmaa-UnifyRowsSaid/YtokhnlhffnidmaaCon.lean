/- slices.ContainsFunc of a row of terms, for any function that hands back a truth. -/
import Derived.Test.YtokhnlhffnidmaaRng
import Derived.Shelf.Abstract
import Derived.Outline
namespace Go.Proofs.Ytokhnlhffnidmaa
open Go.RowKit Go.Shelf Elen

def IdxPost (l : List T) (p : T → Bool) (J : Nat → World → Prop) (e : Ending) (w' : World) : Prop :=
  ∃ i : Int, e = .returned (.int .i64 i) ∧ decide (0 ≤ i) = l.any p ∧ ∃ j, j ≤ l.length ∧ J j w'
def ConPost (l : List T) (p : T → Bool) (J : Nat → World → Prop) (e : Ending) (w' : World) : Prop :=
  e = .returned (.bool (l.any p)) ∧ ∃ j, j ≤ l.length ∧ J j w'

set_option maxHeartbeats 400000 in
theorem index_calls (k : Nat) (lb : Array Value) (hk : ∀ args w, (callFunc k args).run Try.prog w = .ok (.enter k args) w) (F : Nat → Prop) (l : List T) (v : Value) (p : T → Bool) (J : Nat → World → Prop) (w : World) (hv : Sl KT F w l v)
    (hJ : ∀ i W, J i W → SameOn F w W) (h0 : J 0 w) (hc : ∀ i (hi : i < l.length) (x y : Value) (W : World), J i W → IsF F W l[i] x y → Calls Try.prog k (#[.agg #[x, y]] ++ lb) W fun e W' => e = .returned (.bool (p l[i])) ∧ J (i + 1) W') :
    Calls Try.prog 28 #[v, .func (.func k) #[] lb] w (IdxPost l p J) := by
  obtain ⟨A, c, rfl, hc1, hc2⟩ := hv.shape
  have hm : l.length ≤ 4398046511104 := by have e : (KT).by_ = 32 := rfl; rw [e] at hc2; omega
  have HV := Lib.hid hv
  have HJ := Lib.hid hJ
  have H0 := Lib.hid h0
  have HC := Lib.hid hc
  clear hv hJ h0 hc hc1 hc2
  go_enter Try.func28, Try.ntmps28
  go_wp2_with fail
  go_loopg [8] (l.length + 1) (fun k i wr => ∃ d : Nat, d + k = l.length + 1 ∧ i = .int .i64 (d : Int) ∧ d ≤ l.length ∧ J d wr ∧ (l.take d).any p = false)
  case atStart => exact ⟨0, by omega, rfl, by omega, H0.out, rfl⟩
  case round =>
    obtain ⟨d, hdk, rfl, hdl, hj, hp⟩ := hrel
    have HJ1 := Lib.hid hj
    have HP := Lib.hid hp
    clear hj hp
    by_cases hd : d < l.length
    · obtain ⟨b, o, rfl, hFb, hlt, hcs⟩ := (HV.out.same (HJ.out _ _ HJ1.out) (fun _ h => h)).cells (by omega)
      obtain ⟨x, y, k0, k1, hx⟩ := hcs d hd
      have HX := Lib.hid hx
      clear hcs hx
      go_wp2_with fail
      refine (HC.out d hd x y wr HJ1.out HX.out).mono ?_
      rintro e w2 ⟨rfl, hj2⟩
      have HJ2 := Lib.hid hj2
      clear hj2 k0 k1
      have htk : l.take (d + 1) = l.take d ++ [l[d]] := by rw [List.take_add_one, List.getElem?_eq_getElem hd]; rfl
      have HTK := Lib.hid htk
      clear htk
      rcases hpd : p l[d] with _ | _
      · have HPD := Lib.hid hpd
        clear hpd
        go_wp2
        go_roundg (gk - 1)
        case rel => exact ⟨d + 1, by omega, by go_num, by omega, HJ2.out, by rw [HTK.out, List.any_append, HP.out]; simp [HPD.out]⟩
        case measure => omega
      · have HPD := Lib.hid hpd
        clear hpd
        go_wp2
        go_ret
        refine ⟨d, rfl, ?_, d + 1, by omega, HJ2.out⟩
        have : l.any p = true := List.any_eq_true.2 ⟨l[d], List.getElem_mem _, HPD.out⟩
        rw [this]; simp
    · have e : d = l.length := by omega
      subst e
      go_wp2
      go_ret
      refine ⟨-1, rfl, ?_, l.length, by omega, HJ1.out⟩
      have := HP.out
      rw [List.take_length] at this
      rw [this]; rfl

theorem contains_calls (k : Nat) (lb : Array Value) (hk : ∀ args w, (callFunc k args).run Try.prog w = .ok (.enter k args) w) (F : Nat → Prop) (l : List T) (v : Value) (p : T → Bool) (J : Nat → World → Prop) (w : World) (hv : Sl KT F w l v)
    (hJ : ∀ i W, J i W → SameOn F w W) (h0 : J 0 w) (hc : ∀ i (hi : i < l.length) (x y : Value) (W : World), J i W → IsF F W l[i] x y → Calls Try.prog k (#[.agg #[x, y]] ++ lb) W fun e W' => e = .returned (.bool (p l[i])) ∧ J (i + 1) W') :
    Calls Try.prog 18 #[v, .func (.func k) #[] lb] w (ConPost l p J) := by
  have hi := index_calls k lb hk F l v p J w hv hJ h0 hc
  obtain ⟨A, c, rfl, -, -⟩ := hv.shape
  have HI := Lib.hid hi
  clear hi hv hJ h0 hc
  go_enter Try.func18, Try.ntmps18
  go_wp2_with fail
  refine HI.out.mono ?_
  rintro e w1 ⟨i, rfl, hp, j, hj, hJ⟩
  have HP := Lib.hid hp
  have HJ := Lib.hid hJ
  clear hp hJ
  go_wp2
  go_ret
  exact ⟨ret_bool HP.out, j, hj, HJ.out⟩
end Go.Proofs.Ytokhnlhffnidmaa
