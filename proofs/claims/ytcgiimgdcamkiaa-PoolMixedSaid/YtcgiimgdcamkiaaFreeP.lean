/-
  Which slots are free: plain laws.
-/
import Derived.Test.YtcgiimgdcamkiaaOnceP
namespace Go.Proofs.Ytcgiimgdcamkiaa
open Go.RowKit
set_option linter.unusedVariables false

/-- The slots that hd calls free are just those of F. -/
def Free (n : Nat) (hd F : List Int) : Prop := hd.length = n ∧ F.Nodup ∧ (∀ x, x ∈ F → 0 ≤ x ∧ x < n) ∧ ∀ s : Nat, s < n → (hd.getD s 0 = -1 ↔ (s : Int) ∈ F)
/-- All slots that are free in the pool. -/
def allOf (stk : List Nat) (os : List (List Int)) : List Int := intsOf stk ++ os.flatten

theorem mem_intsOf {l : List Nat} {x : Int} : x ∈ intsOf l ↔ ∃ s : Nat, s ∈ l ∧ (s : Int) = x := by simp [intsOf]
theorem nodup_intsOf {l : List Nat} (h : l.Nodup) : (intsOf l).Nodup := by
  induction l with
  | nil => simp [intsOf]
  | cons a r ih =>
    have h2 := List.nodup_cons.1 h
    show ((a : Int) :: intsOf r).Nodup
    refine List.nodup_cons.2 ⟨fun hm => ?_, ih h2.2⟩
    obtain ⟨s, h3, h4⟩ := mem_intsOf.1 hm
    have : s = a := by omega
    exact h2.1 (this ▸ h3)

theorem Free.start (n : Nat) : Free n (List.replicate n (-1)) (intsOf (List.range' 0 n)) := by
  refine ⟨by simp, nodup_intsOf List.nodup_range', fun x hx => ?_, fun s hs => ?_⟩
  · obtain ⟨s, h1, rfl⟩ := mem_intsOf.1 hx
    simp at h1
    omega
  · have h1 : (List.replicate n (-1 : Int)).getD s 0 = -1 := by simp [List.getD, hs]
    rw [h1]
    simp only [true_iff]
    exact mem_intsOf.2 ⟨s, by simp; exact hs, rfl⟩

theorem Free.perm {n : Nat} {hd F F' : List Int} (h : Free n hd F) (hp : F.Perm F') : Free n hd F' :=
  ⟨h.1, hp.nodup_iff.1 h.2.1, fun x hx => h.2.2.1 x (hp.mem_iff.2 hx), fun s hs => (h.2.2.2 s hs).trans hp.mem_iff⟩

theorem Free.take {n : Nat} {hd F : List Int} {x v : Int} (h : Free n hd (x :: F)) (hv : v ≠ -1) : Free n (hd.set x.toNat v) F := by
  obtain ⟨h1, h2, h3, h4⟩ := h
  have hx := h3 x (by simp)
  have h5 := List.nodup_cons.1 h2
  refine ⟨by rw [List.length_set]; exact h1, h5.2, fun y hy => h3 y (by simp [hy]), fun s hs => ?_⟩
  by_cases e : s = x.toNat
  · subst e
    rw [getD_set_eq (by omega)]
    have : ((x.toNat : Nat) : Int) = x := by omega
    rw [this]
    exact ⟨fun h => absurd h hv, fun h => absurd h h5.1⟩
  · rw [getD_set_ne (Ne.symm e), h4 s hs]
    simp only [List.mem_cons]
    have : (s : Int) ≠ x := by omega
    exact ⟨fun h => h.resolve_left this, Or.inr⟩

theorem Free.give {n : Nat} {hd F : List Int} {x : Int} (h : Free n hd F) (h0 : 0 ≤ x) (h1 : x < n) (hx : x ∉ F) : Free n (hd.set x.toNat (-1)) (x :: F) := by
  obtain ⟨h2, h3, h4, h5⟩ := h
  refine ⟨by rw [List.length_set]; exact h2, List.nodup_cons.2 ⟨hx, h3⟩, fun y hy => ?_, fun s hs => ?_⟩
  · rcases List.mem_cons.1 hy with e | e
    · omega
    · exact h4 y e
  · by_cases e : s = x.toNat
    · subst e
      rw [getD_set_eq (by omega)]
      have : ((x.toNat : Nat) : Int) = x := by omega
      rw [this]
      simp
    · rw [getD_set_ne (Ne.symm e), h5 s hs]
      simp only [List.mem_cons]
      have : (s : Int) ≠ x := by omega
      exact ⟨Or.inr, fun h => h.resolve_left this⟩

theorem Free.count {n : Nat} {hd F : List Int} (h : Free n hd F) (s : Nat) (hs : s < n) : (hd.getD s 0 = -1 → F.count (s : Int) = 1) ∧ (hd.getD s 0 ≠ -1 → F.count (s : Int) = 0) := by
  obtain ⟨h2, h3, h4, h5⟩ := h
  refine ⟨fun e => ?_, fun e => ?_⟩
  · have hm := (h5 s hs).1 e
    have h6 := List.count_pos_iff.2 hm
    have h7 := List.nodup_iff_count.1 h3 (s : Int)
    omega
  · exact List.count_eq_zero.2 (fun hm => e ((h5 s hs).2 hm))

theorem flatten_set (os : List (List Int)) : ∀ (i : Nat) (a : List Int), i < os.length → (os.set i a).flatten.Perm (a ++ (os.eraseIdx i).flatten) := by
  induction os with
  | nil => intro i a h; simp at h
  | cons o r ih =>
    intro i a h
    cases i with
    | zero => simp
    | succ i =>
      have := ih i a (by simpa using h)
      simp only [List.set_cons_succ, List.flatten_cons, List.eraseIdx_cons_succ]
      refine (this.append_left o).trans ?_
      rw [← List.append_assoc, ← List.append_assoc]
      exact (List.perm_append_comm).append_right _

theorem set_getD (os : List (List Int)) (i : Nat) (h : i < os.length) : os.set i (os.getD i []) = os := by
  have : os.getD i [] = os[i] := by simp [List.getD, h]
  rw [this]
  exact List.set_getElem_self h

theorem EndCase.take {i : Nat} {s s' : Int} {stk stk' : List Nat} {os os' : List (List Int)} (h : EndCase i false s stk os s' stk' os') (hi : i < os.length) :
    (s' = -1 ∧ os.getD i [] = [] ∧ stk = [] ∧ stk' = [] ∧ os' = os) ∨ (allOf stk os).Perm (s' :: allOf stk' os') := by
  rcases h with ⟨_, ⟨ys, h1, rfl⟩, rfl⟩ | ⟨_, h1, h2, h3, h4, h5⟩ | ⟨_, ⟨t, rfl, rfl⟩, rfl⟩ | ⟨h, _⟩ | ⟨h, _⟩
  · refine Or.inr ?_
    have h2 := flatten_set os i (os.getD i []) hi
    rw [set_getD os i hi, h1] at h2
    have h3 := flatten_set os i ys hi
    have h4 : os.flatten.Perm (s' :: (os.set i ys).flatten) := by
      refine h2.trans (List.Perm.trans ?_ (h3.symm.cons s'))
      rw [List.append_assoc]
      exact List.perm_middle
    exact (h4.append_left (intsOf stk')).trans List.perm_middle
  · exact Or.inl ⟨h1, h2, h3, h4, h5⟩
  · exact Or.inr (List.Perm.refl _)
  · cases h
  · cases h

theorem EndCase.give {i : Nat} {s s' : Int} {stk stk' : List Nat} {os os' : List (List Int)} (h : EndCase i true s stk os s' stk' os') (hi : i < os.length) (hs : 0 ≤ s) :
    s' = s ∧ (allOf stk' os').Perm (s :: allOf stk os) := by
  rcases h with ⟨h, _⟩ | ⟨h, _⟩ | ⟨h, _⟩ | ⟨_, rfl, rfl, rfl⟩ | ⟨_, rfl, rfl, rfl⟩
  · cases h
  · cases h
  · cases h
  · refine ⟨rfl, ?_⟩
    have h2 := flatten_set os i (os.getD i []) hi
    rw [set_getD os i hi] at h2
    have h3 := flatten_set os i (os.getD i [] ++ [s']) hi
    have h4 : (os.set i (os.getD i [] ++ [s'])).flatten.Perm (s' :: os.flatten) := by
      refine h3.trans (List.Perm.trans ?_ (h2.symm.cons s'))
      rw [List.append_assoc]
      exact List.perm_middle
    exact (h4.append_left (intsOf stk')).trans List.perm_middle
  · refine ⟨rfl, ?_⟩
    show ((s'.toNat : Nat) : Int) :: _ |>.Perm _
    rw [show ((s'.toNat : Nat) : Int) = s' by omega]
    exact List.Perm.refl _
end Go.Proofs.Ytcgiimgdcamkiaa
