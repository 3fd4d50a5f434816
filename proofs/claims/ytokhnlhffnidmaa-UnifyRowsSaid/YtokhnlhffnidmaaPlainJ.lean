/- Small terms; short answers; without the program. -/
import Derived.Test.YtokhnlhffnidmaaPlainB
import Derived.Test.YtokhnlhffnidmaaPlainH
namespace Go.Proofs.Ytokhnlhffnidmaa.Elen

def fewN : List T → Int → Int
  | [], n => n
  | a :: l, n => if n ≤ 60 then fewN l (n + T.count a 60) else n
theorem fewN_stop (l : List T) (n : Int) (h : 60 < n) : fewN l n = n := by
  cases l with
  | nil => rfl
  | cons a l => simp only [fewN]; rw [if_neg (by omega)]
theorem fewN_drop {l : List T} {d : Nat} (hd : d < l.length) (n : Int) (h : n ≤ 60) : fewN (l.drop d) n = fewN (l.drop (d + 1)) (n + T.count l[d] 60) := by
  rw [List.drop_eq_getElem_cons hd]
  simp only [fewN]
  rw [if_pos h]
theorem fewN_size : ∀ (l : List T) (n : Int), 0 ≤ n → fewN l n ≤ 60 → n + T.sizeL l ≤ 60
  | [], n, _, hc => by simp only [fewN, T.sizeL] at *; omega
  | a :: l, n, h0, hc => by
    simp only [fewN, T.sizeL] at *
    by_cases c : n ≤ 60
    · rw [if_pos c] at hc
      have hcl := T.count_le a 60 (by omega)
      have h1 := fewN_size l _ (by omega) hc
      have h2 := T.count_size a 60 (by omega)
      omega
    · rw [if_neg c] at hc; omega
theorem ends_small (s : Sub) : ∀ (vs : List Nat) (acc : List (Nat × T)), (∀ p, p ∈ acc → p.2.size ≤ 400) → ∀ p, p ∈ (ends s vs acc).1 → p.2.size ≤ 400
  | [], acc, h, p, hp => h p hp
  | v :: vs, acc, h, p, hp => by
    simp only [ends] at hp
    split at hp
    · rename_i hb
      refine ends_small s vs _ (fun q hq => ?_) p hp
      rcases List.mem_append.1 hq with hq | hq
      · exact h q hq
      · rw [List.mem_singleton] at hq
        subst hq
        unfold big at hb
        split at hb
        · omega
        · simp only; omega
    · cases hp
theorem answer_small (r : Option Sub) : ∀ p, p ∈ (answer r).1 → p.2.size ≤ 400 := by
  cases r with
  | none => intro p hp; cases hp
  | some s => exact ends_small s _ _ (fun p hp => by cases hp)
end Go.Proofs.Ytokhnlhffnidmaa.Elen
