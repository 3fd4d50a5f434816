/- What the reference's functions of layer 1 compute, without the program. -/
import Derived.Test.YtokhnlhffnidmaaPlainA
namespace Go.Proofs.Ytokhnlhffnidmaa.Elen

mutual
def T.count : T → Int → Int
  | .mk _ ar, most => T.countL ar 1 most
def T.countL : List T → Int → Int → Int
  | [], n, _ => n
  | a :: ar, n, most => if n ≤ most then T.countL ar (n + T.count a (most - n)) most else n
end
mutual
theorem T.count_le : ∀ (t : T) (most : Int), 0 ≤ most → 1 ≤ T.count t most ∧ T.count t most ≤ most + 1
  | .mk _ ar, most, h => by
    simp only [T.count]
    exact T.countL_le ar 1 most (by omega) (by omega)
theorem T.countL_le : ∀ (ar : List T) (n most : Int), 1 ≤ n → n ≤ most + 1 → 1 ≤ T.countL ar n most ∧ T.countL ar n most ≤ most + 1
  | [], n, most, h0, h => by simp only [T.countL]; omega
  | a :: ar, n, most, h0, h => by
    simp only [T.countL]
    split
    · have := T.count_le a (most - n) (by omega)
      exact T.countL_le ar _ most (by omega) (by omega)
    · omega
end
theorem T.countL_stop (ar : List T) (n most : Int) (h : most < n) : T.countL ar n most = n := by
  cases ar with
  | nil => rfl
  | cons a ar => simp only [T.countL]; rw [if_neg (by omega)]
theorem T.countL_drop {ar : List T} {d : Nat} (hd : d < ar.length) (n most : Int) (h : n ≤ most) : T.countL (ar.drop d) n most = T.countL (ar.drop (d + 1)) (n + T.count ar[d] (most - n)) most := by
  rw [List.drop_eq_getElem_cons hd]
  simp only [T.countL]
  rw [if_pos h]

/-- a part's own rightness -/
def okHere (h : Int) (n : Nat) : Bool := !(decide (h < 0) && decide (0 < n)) && !decide (h < -256) && !decide (1023 < h) && !decide (8 < n)
mutual
def T.good : T → Bool
  | .mk h ar => okHere h ar.length && T.goodL ar
def T.goodL : List T → Bool
  | [] => true
  | a :: ar => T.good a && T.goodL ar
end
theorem T.sizeL_drop {ar : List T} {d : Nat} (hd : d < ar.length) : T.sizeL (ar.drop d) = T.size ar[d] + T.sizeL (ar.drop (d + 1)) := by
  rw [List.drop_eq_getElem_cons hd]; rfl
theorem T.depthL_drop {ar : List T} {d : Nat} (hd : d < ar.length) : T.depthL (ar.drop d) = max (T.depth ar[d]) (T.depthL (ar.drop (d + 1))) := by
  rw [List.drop_eq_getElem_cons hd]; rfl
theorem T.goodL_drop {ar : List T} {d : Nat} (hd : d < ar.length) : T.goodL (ar.drop d) = (T.good ar[d] && T.goodL (ar.drop (d + 1))) := by
  rw [List.drop_eq_getElem_cons hd]; rfl
mutual
theorem T.depth_le : ∀ t : T, T.depth t ≤ T.size t
  | .mk _ ar => by simp only [T.depth, T.size]; have := T.depthL_le ar; omega
theorem T.depthL_le : ∀ l : List T, T.depthL l ≤ T.sizeL l
  | [] => by simp [T.depthL]
  | a :: ar => by simp only [T.depthL, T.sizeL]; have := T.depth_le a; have := T.depthL_le ar; omega
end
/-- layer 1's error of a term -/
def T.check (t : T) : Int := if 400 < t.size then 2 else if 40 < t.depth then 7 else if t.good then 0 else 1
def T.rightB (t : T) : Bool := decide (t.check = 0)
def T.rightAll : List T → Bool
  | [] => true
  | a :: ar => T.rightB a && T.rightAll ar
theorem T.rightAll_drop {ar : List T} {d : Nat} (hd : d < ar.length) : T.rightAll (ar.drop d) = (T.rightB ar[d] && T.rightAll (ar.drop (d + 1))) := by
  rw [List.drop_eq_getElem_cons hd]; rfl
theorem T.rightAll_iff {l : List T} : T.rightAll l = true ↔ ∀ a, a ∈ l → T.check a = 0 := by
  induction l with
  | nil => simp [T.rightAll]
  | cons a l ih => simp [T.rightAll, ih, T.rightB]

/-! ### the order -/
def ord (a b : Int) : Int := if a < b then -1 else if b < a then 1 else 0
mutual
def T.cmp : T → T → Int
  | .mk h ar, .mk k br => if T.size (.mk h ar) = T.size (.mk k br) then (if h = k then (if ar.length = br.length then T.cmpL ar br else ord ar.length br.length) else ord h k) else ord (T.size (.mk h ar)) (T.size (.mk k br))
def T.cmpL : List T → List T → Int
  | a :: ar, b :: br => if T.cmp a b = 0 then T.cmpL ar br else T.cmp a b
  | _, _ => 0
end
theorem ord_zero {a b : Int} : ord a b = 0 ↔ a = b := by unfold ord; split <;> (try split) <;> omega
mutual
theorem T.cmp_zero : ∀ (a b : T), T.cmp a b = 0 ↔ a = b
  | .mk h ar, .mk k br => by
    simp only [T.cmp]
    split
    · split
      · split
        · rename_i h1 h2 h3
          rw [T.cmpL_zero ar br h3]
          constructor
          · rintro rfl; rw [h2]
          · intro e; injection e
        · rename_i h3
          rw [ord_zero]
          constructor
          · intro e; exact absurd (by omega) h3
          · intro e; injection e with _ e2; rw [e2] at h3; exact absurd rfl h3
      · rename_i h2
        rw [ord_zero]
        constructor
        · intro e; exact absurd e h2
        · intro e; injection e
    · rename_i h1
      rw [ord_zero]
      constructor
      · intro e; exact absurd (by omega) h1
      · intro e; rw [e] at h1; exact absurd rfl h1
theorem T.cmpL_zero : ∀ (ar br : List T), ar.length = br.length → (T.cmpL ar br = 0 ↔ ar = br)
  | [], [], _ => by simp [T.cmpL]
  | [], _ :: _, h => by simp at h
  | _ :: _, [], h => by simp at h
  | a :: ar, b :: br, h => by
    simp only [T.cmpL]
    have h1 := T.cmp_zero a b
    have h2 := T.cmpL_zero ar br (by simpa using h)
    split
    · rename_i c; rw [h2, h1.1 c]; simp
    · rename_i c
      constructor
      · intro e; exact absurd e c
      · intro e; injection e with e1 e2; exact absurd (h1.2 e1) c
end
def T.same (a b : T) : Bool := T.cmp a b == 0
theorem T.same_iff {a b : T} : T.same a b = true ↔ a = b := by unfold T.same; rw [beq_iff_eq]; exact T.cmp_zero a b
theorem T.cmpL_drop {ar br : List T} {d : Nat} (h1 : d < ar.length) (h2 : d < br.length) : T.cmpL (ar.drop d) (br.drop d) = if T.cmp ar[d] br[d] = 0 then T.cmpL (ar.drop (d + 1)) (br.drop (d + 1)) else T.cmp ar[d] br[d] := by
  rw [List.drop_eq_getElem_cons h1, List.drop_eq_getElem_cons h2]; rfl
theorem T.cmpL_end {ar br : List T} {d : Nat} (h1 : ar.length ≤ d) : T.cmpL (ar.drop d) (br.drop d) = 0 := by
  rw [List.drop_eq_nil_of_le h1]; cases br.drop d <;> rfl
theorem T.cmp_range (a b : T) : -1 ≤ T.cmp a b ∧ T.cmp a b ≤ 1 := by
  have ho : ∀ a b, -1 ≤ ord a b ∧ ord a b ≤ 1 := by intro a b; unfold ord; split <;> (try split) <;> omega
  have key : ∀ n a b, T.size a ≤ n → -1 ≤ T.cmp a b ∧ T.cmp a b ≤ 1 := by
    intro n
    induction n with
    | zero => intro a b h; have := T.size_pos a; omega
    | succ n ih =>
      intro a b hn
      cases a with
      | mk h ar =>
      cases b with
      | mk k br =>
      simp only [T.cmp]
      split
      · split
        · split
          · have hl : ∀ (ar br : List T), T.sizeL ar ≤ n → -1 ≤ T.cmpL ar br ∧ T.cmpL ar br ≤ 1 := by
              intro ar
              induction ar with
              | nil => intro br _; simp [T.cmpL]
              | cons a ar iha =>
                intro br hz
                cases br with
                | nil => simp [T.cmpL]
                | cons b br =>
                  simp only [T.sizeL] at hz
                  simp only [T.cmpL]
                  split
                  · exact iha br (by omega)
                  · exact ih a b (by omega)
            exact hl ar br (by simp only [T.size] at hn; omega)
          · exact ho _ _
        · exact ho _ _
      · exact ho _ _
  exact key _ a b (Nat.le_refl _)

mutual
theorem T.count_size : ∀ (t : T) (most : Int), T.count t most ≤ most → T.count t most = T.size t
  | .mk _ ar, most, h => by
    simp only [T.count, T.size] at *
    rw [T.countL_size ar 1 most h]; omega
theorem T.countL_size : ∀ (ar : List T) (n most : Int), T.countL ar n most ≤ most → T.countL ar n most = n + T.sizeL ar
  | [], n, most, _ => by simp [T.countL, T.sizeL]
  | a :: ar, n, most, h => by
    simp only [T.countL, T.sizeL] at *
    split at h
    · rename_i c
      rw [if_pos c]
      have hge : ∀ (l : List T) (m : Int), m ≤ T.countL l m most := by
        intro l
        induction l with
        | nil => intro m; simp [T.countL]
        | cons b l ih =>
          intro m; simp only [T.countL]; split
          · rename_i c'
            have := ih (m + T.count b (most - m))
            have := T.count_le b (most - m) (by omega)
            omega
          · omega
      have h2 := hge ar (n + T.count a (most - n))
      rw [T.countL_size ar _ most h, T.count_size a (most - n) (by omega)]
      omega
    · omega
end
end Go.Proofs.Ytokhnlhffnidmaa.Elen
