/-
  An append of numbers to a list of numbers that the program made itself, as one operation: the source may be empty.
-/
import Derived.Test.YtcgiimgdcamkiaaPoolB
import Derived.Maps.AppendAt
import Derived.Deep.AppendLies
import Derived.RegionTactic
namespace Go.Proofs.Ytcgiimgdcamkiaa
open Go.RowKit
set_option linter.unusedVariables false

theorem oneCell_ints (l : List Int) : ∀ u, u ∈ l.map (Value.int .i64) → u.oneCell' = true := by
  intro u hu
  obtain ⟨_, _, rfl⟩ := List.mem_map.1 hu
  rfl

/-- From this place on there stand these numbers. -/
def Src (w : World) (A : Option Addr) (ns : List Int) : Prop := ∃ ad : Addr, A = some ad ∧ ∀ j, j < ns.length → w.cell? (ad.add j) = some (.int .i64 (ns.getD j 0))

theorem Src.only {w w' : World} {A : Option Addr} {ns : List Int} (h : Src w A ns) (hO : Only [] w w') : Src w' A ns := by
  obtain ⟨ad, e, hc⟩ := h
  refine ⟨ad, e, fun j hj => ?_⟩
  have h1 := hc j hj
  have hl := World.block_lt_of_cell? w _ h1
  exact (World.cell?_of_block (hO.block _ hl (by simp))).trans h1

section
variable {o : Oper} {a : Act} {w : World}

theorem wp_append_ints {K : Act → World → Prop} {Q : Exit → Act → World → Prop} (s x : Operand) (ho : o.op = .call { callee := .builtin .append, args := #[s, x], argTypes := #[29, 29] })
    (base : Nat) (v : Value) (xs ns : List Int) (hs : a.eval s = v) (hown : Ints w base v xs) (A : Option Addr) (m c : Nat) (hx : a.eval x = .slice A m c) (hsrc : Src w A ns) (hm : ns.length = m) (hl : xs.length + m ≤ 1000000) (hbase : base ≤ w.heap.size)
    (h : ∀ v' w', Ints w' base v' (xs ++ ns) → w.grownBy w' v.ownBlock → (v'.ownBlock = v.ownBlock ∨ v'.ownBlock = some w.heap.size) → K (a.put o.dst v') w') : o.wp Try.prog a w K Q := by
  subst hm
  obtain ⟨i0, hi, hz0, hz1, hz2⟩ := info_parts Try.info3
  obtain ⟨ad, rfl, hc⟩ := hsrc
  obtain ⟨v', w', hrun, g1, g2, _, g3⟩ := run_append_own_at (P := Try.prog) w base 29 o.type 3 i0 (.int .i64 0) 1 8 Try.underlying29 hi hz0 hz1 hz2 rfl (by decide) v xs.length (xs.map (Value.int .i64)) hown ad ns.length c (ns.map (Value.int .i64)) (by simp)
    (fun j u hu => by
      have hj : j < ns.length := by have := (List.getElem?_eq_some_iff.1 hu).1; simpa using this
      rw [hc j hj, ← hu]
      simp [hj])
    (oneCell_ints ns) (by unfold maxLen; omega) (by omega) hbase
  have hI : Ints w' base v' (xs ++ ns) := by
    unfold Ints
    rw [List.length_append, List.map_append]
    exact g1
  unfold Oper.wp execOp
  simp only [ho, resolve, invoke, builtin, Sem.run_bind, Sem.run_pure, Result.andThen_ok, List.map_toArray, List.map_cons, List.map_nil, hs, hx, hrun]
  exact h v' w' hI g2 g3

/-- The same at a step of a region that draws its order. -/
theorem step_append_ints {ops : Array Oper} {K : Act → World → Prop} {Q : Exit → Act → World → Prop} {E : Prop} (hgd : o.guard = none) (s x : Operand) (ho : o.op = .call { callee := .builtin .append, args := #[s, x], argTypes := #[29, 29] })
    (base : Nat) (v : Value) (xs ns : List Int) (hs : a.eval s = v) (hown : Ints w base v xs) (A : Option Addr) (m c : Nat) (hx : a.eval x = .slice A m c) (hsrc : Src w A ns) (hm : ns.length = m) (hl : xs.length + m ≤ 1000000) (hbase : base ≤ w.heap.size)
    (h : ∀ v' w', Ints w' base v' (xs ++ ns) → w.grownBy w' v.ownBlock → (v'.ownBlock = v.ownBlock ∨ v'.ownBlock = some w.heap.size) → K (a.put o.dst v') w') :
    if Region.wanted o (yielded ops a.tmps) = true then Oper.wp Try.prog o a w K Q else E := by
  rw [if_pos (by simp [Region.wanted, hgd])]
  exact wp_append_ints s x ho base v xs ns hs hown A m c hx hsrc hm hl hbase h

/-- The same in a plain list of operations. -/
theorem list_append_ints {ops : Array Oper} {rest : List Oper} {Q : Exit → Act → World → Prop} (hgd : o.guard = none) (s x : Operand) (ho : o.op = .call { callee := .builtin .append, args := #[s, x], argTypes := #[29, 29] })
    (base : Nat) (v : Value) (xs ns : List Int) (hs : a.eval s = v) (hown : Ints w base v xs) (A : Option Addr) (m c : Nat) (hx : a.eval x = .slice A m c) (hsrc : Src w A ns) (hm : ns.length = m) (hl : xs.length + m ≤ 1000000) (hbase : base ≤ w.heap.size)
    (h : ∀ v' w', Ints w' base v' (xs ++ ns) → w.grownBy w' v.ownBlock → (v'.ownBlock = v.ownBlock ∨ v'.ownBlock = some w.heap.size) → wpList Try.prog ops Q rest (a.put o.dst v') w') : wpList Try.prog ops Q (o :: rest) a w :=
  wpList_plain hgd fun K hK => wp_append_ints s x ho base v xs ns hs hown A m c hx hsrc hm hl hbase fun v' w' g1 g2 g3 => hK _ _ (h v' w' g1 g2 g3)
end
end Go.Proofs.Ytcgiimgdcamkiaa
