/- What a solver's end hands back, without the program. -/
import Derived.Test.YtokhnlhffnidmaaPlainG
namespace Go.Proofs.Ytokhnlhffnidmaa.Elen

def var (v : Nat) : T := .mk (-1 - (v : Int)) []
open Classical in
/-- behind all that is bound -/
noncomputable def fin (s : Sub) (t : T) : T := if h : ∃ t', Full s t t' then h.choose else t
theorem fin_eq {s : Sub} {t t' : T} (h : Full s t t') : fin s t = t' := by
  have h1 : ∃ t', Full s t t' := ⟨t', h⟩
  unfold fin
  rw [dif_pos h1]
  exact h1.choose_spec.det h
def big (t : T) : Int := if 400 < t.size then 2 else if 40 < t.depth then 7 else 0
/-- what is told of the variables that are bound -/
noncomputable def ends (s : Sub) : List Nat → List (Nat × T) → List (Nat × T) × Int
  | [], acc => (acc, 0)
  | v :: vs, acc => if big (fin s (var v)) = 0 then ends s vs (acc ++ [(v, fin s (var v))]) else ([], big (fin s (var v)))
def vars (s : Sub) : List Nat := (List.range 256).filter fun v => (s (v : Int)).isSome
noncomputable def answer : Option Sub → List (Nat × T) × Bool × Int
  | none => ([], false, 0)
  | some s => ((ends s (vars s) []).1, decide ((ends s (vars s) []).2 = 0), (ends s (vars s) []).2)
theorem ends_yes {s : Sub} {v : Nat} {vs : List Nat} {acc : List (Nat × T)} {t : T} (h : fin s (var v) = t) (hb : big t = 0) : ends s (v :: vs) acc = ends s vs (acc ++ [(v, t)]) := by
  subst h; simp only [ends]; rw [if_pos hb]
theorem ends_no {s : Sub} {v : Nat} {vs : List Nat} {acc : List (Nat × T)} {t : T} (h : fin s (var v) = t) (hb : big t ≠ 0) : ends s (v :: vs) acc = ([], big t) := by
  subst h; simp only [ends]; rw [if_neg hb]
theorem vars_mem {s : Sub} {v : Nat} (h : v ∈ vars s) : v < 256 ∧ ∃ u, s v = some u := by
  unfold vars at h
  rw [List.mem_filter, List.mem_range, Option.isSome_iff_exists] at h
  exact h
theorem vars_len (s : Sub) : (vars s).length ≤ 256 := by
  have := List.length_filter_le (fun v : Nat => (s (v : Int)).isSome) (List.range 256)
  unfold vars
  simpa using this
theorem Full.of_var {s : Sub} {v : Nat} {u t' : T} (hs : s v = some u) (h : Full s (var v) t') : Full s u t' := by
  have e : (-1 - (-1 - (v : Int))) = v := by omega
  cases h with
  | free _ h2 => rw [e, hs] at h2; cases h2
  | bound _ h2 h3 => rw [e, hs] at h2; cases h2; exact h3
  | node h1 => omega
end Go.Proofs.Ytokhnlhffnidmaa.Elen
