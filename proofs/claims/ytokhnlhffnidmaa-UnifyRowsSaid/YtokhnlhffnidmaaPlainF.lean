/- A term's parts, each with how deep it stands; what they tell. -/
import Derived.Test.YtokhnlhffnidmaaPlainB
namespace Go.Proofs.Ytokhnlhffnidmaa.Elen

mutual
def T.pts (d : Nat) : T → List (T × Nat)
  | .mk h as => (.mk h as, d) :: T.ptsL (d + 1) as
def T.ptsL (d : Nat) : List T → List (T × Nat)
  | [] => []
  | a :: as => T.pts d a ++ T.ptsL d as
end
/-- what a stack still holds, its top first -/
def flat (st : List (T × Nat)) : List (T × Nat) := st.flatMap fun p => T.pts p.2 p.1
theorem ptsL_flat (d : Nat) : ∀ as : List T, T.ptsL d as = flat (as.map fun a => (a, d))
  | [] => rfl
  | a :: as => by simp only [T.ptsL, List.map_cons, flat, List.flatMap_cons]; rw [ptsL_flat d as]; rfl
theorem flat_cons (t : T) (d : Nat) (st : List (T × Nat)) : flat ((t, d) :: st) = (t, d) :: flat (t.args.map (fun a => (a, d + 1)) ++ st) := by
  cases t with
  | mk h as =>
    simp only [flat, List.flatMap_cons, List.flatMap_append, T.pts, T.args, List.cons_append]
    rw [ptsL_flat]; rfl
theorem flat_nil : flat [] = [] := rfl
mutual
theorem T.pts_length (d : Nat) : ∀ t : T, (T.pts d t).length = t.size
  | .mk h as => by simp only [T.pts, T.size, List.length_cons]; rw [T.ptsL_length]
theorem T.ptsL_length (d : Nat) : ∀ as : List T, (T.ptsL d as).length = T.sizeL as
  | [] => rfl
  | a :: as => by simp only [T.ptsL, T.sizeL, List.length_append]; rw [T.pts_length, T.ptsL_length]
end
def mx (l : List (T × Nat)) : Nat := l.foldr (fun p m => max p.2 m) 0
theorem mx_append (a b : List (T × Nat)) : mx (a ++ b) = max (mx a) (mx b) := by
  induction a with
  | nil => simp [mx]
  | cons p a ih => simp only [mx, List.cons_append, List.foldr_cons] at *; rw [ih]; omega
def badHere (t : T) : Bool := !okHere t.head t.args.length
def bad (l : List (T × Nat)) : Bool := l.any fun p => badHere p.1
theorem bad_append (a b : List (T × Nat)) : bad (a ++ b) = (bad a || bad b) := List.any_append
mutual
theorem T.pts_mx (d : Nat) : ∀ t : T, mx (T.pts d t) + 1 = d + t.depth
  | .mk h as => by
    have := T.ptsL_mx (d + 1) as
    simp only [T.pts, mx, List.foldr_cons, T.depth] at *
    cases as with
    | nil => simp only [T.ptsL, T.depthL, List.foldr_nil] at *; omega
    | cons a as =>
      have h1 := T.depthL_pos a as
      have := this (by simp)
      omega
theorem T.ptsL_mx (d : Nat) : ∀ as : List T, as ≠ [] → mx (T.ptsL d as) + 1 = d + T.depthL as
  | [], h => absurd rfl h
  | a :: as, _ => by
    simp only [T.ptsL, mx_append, T.depthL]
    have h1 := T.pts_mx d a
    by_cases c : as = []
    · subst c
      have := T.depth_pos a
      simp only [T.ptsL, T.depthL, mx, List.foldr_nil] at *
      omega
    · have h2 := T.ptsL_mx d as c
      omega
theorem T.depthL_pos (a : T) (as : List T) : 0 < T.depthL (a :: as) := by
  simp only [T.depthL]; have := T.depth_pos a; omega
end
mutual
theorem T.pts_bad (d : Nat) : ∀ t : T, bad (T.pts d t) = !t.good
  | .mk h as => by
    have := T.ptsL_bad (d + 1) as
    simp only [T.pts, bad, List.any_cons, T.good, badHere, T.head, T.args, Bool.not_and] at *
    rw [this]
theorem T.ptsL_bad (d : Nat) : ∀ as : List T, bad (T.ptsL d as) = !T.goodL as
  | [] => rfl
  | a :: as => by
    simp only [T.ptsL, bad_append, T.goodL, Bool.not_and]
    rw [T.pts_bad, T.ptsL_bad]
end
theorem bad_snoc (l : List (T × Nat)) (p : T × Nat) : bad (l ++ [p]) = (bad l || badHere p.1) := by
  rw [bad_append]; simp [bad]
theorem mx_snoc (l : List (T × Nat)) (p : T × Nat) : mx (l ++ [p]) = max (mx l) p.2 := by
  rw [mx_append]; simp [mx]
/-- all parts of a term -/
def T.parts (t : T) : List (T × Nat) := T.pts 1 t
theorem T.parts_check (t : T) : t.check = if 400 < t.parts.length then 2 else if 40 < mx t.parts then 7 else if bad t.parts then 1 else 0 := by
  have h1 := T.pts_length 1 t
  have h2 := T.pts_mx 1 t
  have h3 := T.pts_bad 1 t
  unfold T.parts T.check
  rw [h1, h3, show mx (T.pts 1 t) = t.depth from by omega]
  cases t.good <;> rfl
theorem flat_len : ∀ st : List (T × Nat), st.length ≤ (flat st).length
  | [] => Nat.le_refl _
  | p :: st => by
    have := flat_len st
    have h1 := T.pts_length p.2 p.1
    have h2 := T.size_pos p.1
    simp only [flat, List.flatMap_cons, List.length_append, List.length_cons] at *
    omega
theorem le_mx {p : T × Nat} : ∀ {l : List (T × Nat)}, p ∈ l → p.2 ≤ mx l
  | q :: l, h => by
    simp only [mx, List.foldr_cons]
    rcases List.mem_cons.1 h with rfl | h
    · omega
    · have := le_mx h; simp only [mx] at this; omega
theorem T.parts_le {t : T} {p : T × Nat} (h : p ∈ t.parts) : p.2 ≤ t.size := by
  have h1 := le_mx h
  have h2 := T.pts_mx 1 t
  have h3 := T.depth_le t
  unfold T.parts at h1
  omega
theorem flat_one (t : T) (d : Nat) : flat [(t, d)] = T.pts d t := by simp [flat]
end Go.Proofs.Ytokhnlhffnidmaa.Elen
