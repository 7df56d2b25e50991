/-
  PoolMixed: what is said of each worker, and what keeps it.
-/
import Derived.Test.YtcgiimgdcamkiaaMixA
namespace Go.Proofs.Ytcgiimgdcamkiaa
open Go.RowKit
set_option linter.unusedVariables false

/-- What a worker holds: different slots, all of which Holder gives to it. -/
def HoldsOK (n : Nat) (hd : List Int) (k : Nat) (hx : List Int) : Prop := hx.Nodup ∧ ∀ x, x ∈ hx → 0 ≤ x ∧ x < n ∧ hd.getD x.toNat 0 = k

/-- What a worker is about. -/
def ActOK (w : World) (B : Nat) (L : PoolL) (n : Nat) (ver : Int) (stk : List Nat) (cs hd hx : List Int) (k : Nat) (p : Value) : Prop :=
  p = .pointer none ∨ ∃ (lb ab : Nat) (give : Bool) (slot from_ s ph T nx : Int), p = .pointer (some ⟨lb, 0, none⟩) ∧ (B ≤ lb ∧ B ≤ ab) ∧ Blk w lb [.pointer (some ⟨ab, 0, none⟩), .bool give, .int .i64 slot, .int .i64 from_] 86 ∧ Blk w ab (actP L.pp k give s ph T nx) 108 ∧
    (ph = 0 ∨ ph = 1 ∨ ph = 2) ∧ ActInv L ver stk cs give s ph T nx ∧ (give = true → s = slot ∧ 0 ≤ s ∧ s < n ∧ hd.getD s.toNat 0 = k ∧ s ∉ hx) ∧ (give = false → s = -1)

/-- Another worker's Step, and Holder's turn, leave a worker's act as it is. -/
theorem ActOK.keep {w w' : World} {B : Nat} {L : PoolL} {n : Nat} {ver ver' : Int} {stk stk' : List Nat} {cs cs' hd hd' hx : List Int} {k : Nat} {p : Value} (h : ActOK w B L n ver stk cs hd hx k p) {S : List Nat} (hO : Only S w w')
    (hS : ∀ b, b ∈ S → w.heap.size ≤ b ∨ ∃ vs t, Blk w b vs t ∧ t ≠ 86 ∧ (t = 108 → vs[1]? ≠ some (.int .i64 k))) (hv : (ver' = ver ∧ stk' = stk) ∨ ver' = ver + 1)
    (hd1 : ∀ s : Int, 0 ≤ s → s < n → hd.getD s.toNat 0 = k → hd'.getD s.toNat 0 = k ∧ lk cs' L.base s = lk cs L.base s) : ActOK w' B L n ver' stk' cs' hd' hx k p := by
  rcases h with h | ⟨lb, ab, give, slot, from_, s, ph, T, nx, h1, hB, h2, h3, h4, h5, h6, h7⟩
  · exact Or.inl h
  refine Or.inr ⟨lb, ab, give, slot, from_, s, ph, T, nx, h1, hB, hO.blk h2 (fun hm => ?_), hO.blk h3 (fun hm => ?_), h4, h5.other hv (fun hg => ?_), fun hg => ?_, h7⟩
  · have hl := h2.lt
    rcases hS lb hm with q | ⟨vs, t, q1, q2, _⟩
    · omega
    · exact absurd rfl (q1.ty h2 q2)
  · have hl := h3.lt
    rcases hS ab hm with q | ⟨vs, t, q1, _, q3⟩
    · omega
    · have e : vs = actP L.pp k give s ph T nx ∧ t = 108 := by
        unfold Blk at q1 h3
        rw [h3] at q1
        simp only [Option.some.injEq, Obj.cells.injEq] at q1
        exact ⟨by have := q1.1; simp at this; exact this.symm, q1.2.1.symm⟩
      obtain ⟨rfl, rfl⟩ := e
      exact q3 rfl rfl
  · obtain ⟨_, g1, g2, g3, _⟩ := h6 hg
    exact (hd1 s g1 g2 g3).2
  · obtain ⟨g0, g1, g2, g3, g4⟩ := h6 hg
    exact ⟨g0, g1, g2, (hd1 s g1 g2 g3).1, g4⟩
end Go.Proofs.Ytcgiimgdcamkiaa
