/-
  What came in: lists of numbers; Go's 'int(uint64(x) % m)'.
-/
import Derived.Test.YtcgiimgdcamkiaaPost
namespace Go.Proofs.Ytcgiimgdcamkiaa
open Go.ChangeShapes Go.WideShapes Go.ChangeAt Go.RowKit
set_option linter.unusedVariables false

/-- Go's 'int(uint64(x) % m)': between 0 and m. -/
theorem umod_bd (x m : Int) (h0 : 0 < m) (h1 : m ≤ 4611686018427387904) : 0 ≤ wrap64 ((IntKind.u64.wrap x).tmod m) ∧ wrap64 ((IntKind.u64.wrap x).tmod m) < m := by
  have hu : 0 ≤ IntKind.u64.wrap x := by
    simp [IntKind.wrap, IntKind.bits, IntKind.signed]
    omega
  have ht : (IntKind.u64.wrap x).tmod m = IntKind.u64.wrap x % m := Int.tmod_eq_emod_of_nonneg hu
  have h2 := Int.emod_nonneg (IntKind.u64.wrap x) (show m ≠ 0 by omega)
  have h3 := Int.emod_lt_of_pos (IntKind.u64.wrap x) h0
  rw [ht]
  unfold wrap64
  omega

/-- A list of numbers that came in. -/
def ArgI (w : World) (v : Value) (zs : List Int) : Prop :=
  ∃ a cap, v = .slice a zs.length cap ∧ (zs ≠ [] → ∃ b off, a = some ⟨b, off, none⟩ ∧ ∀ j, j < zs.length → w.cell? ⟨b, off + j, none⟩ = some (.int .i64 (zs.getD j 0)))

theorem ArgI.only {w w' : World} {v : Value} {zs : List Int} (h : ArgI w v zs) (hO : Only [] w w') : ArgI w' v zs := by
  obtain ⟨a, cap, rfl, hc⟩ := h
  refine ⟨a, cap, rfl, fun hz => ?_⟩
  obtain ⟨b, off, rfl, hd⟩ := hc hz
  refine ⟨b, off, rfl, fun j hj => ?_⟩
  have h1 := hd j hj
  have hl := World.block_lt_of_cell? w _ h1
  exact (World.cell?_of_block (hO.block b hl (by simp))).trans h1

/-- A slice of whole numbers that came in: nil, or a row of cap cells. -/
def IsRow (k : IntKind) (w : World) (a : Option Addr) (len cap : Nat) (zs : List Int) : Prop :=
  (a = none ∧ len = 0 ∧ cap = 0 ∧ zs = []) ∨
  ∃ x, a = some x ∧ len ≤ cap ∧ cap ≤ maxLen ∧ zs.length = cap ∧ (∀ i, i < zs.length → w.cell? (x.add i) = some (.int k (zs.getD i 0))) ∧ ∀ n ∈ zs, (Lit.int k n).wf = true

theorem arg_of_row {w : World} {a : Option Addr} {len cap : Nat} {zs : List Int} (h : IsRow .i64 w a len cap zs) : ArgI w (.slice a len cap) (zs.take len) ∧ (zs.take len).length ≤ 9223372036854775807 := by
  rcases h with ⟨rfl, rfl, rfl, rfl⟩ | ⟨x, rfl, hl, hm, hz, hc, -⟩
  · exact ⟨⟨none, 0, rfl, fun h => absurd rfl h⟩, by simp⟩
  · have hlen : (zs.take len).length = len := by simp; omega
    refine ⟨⟨_, cap, by rw [hlen], fun hne => ?_⟩, by rw [hlen]; unfold maxLen at hm; omega⟩
    have hpos : 0 < len := by rw [← hlen]; exact List.length_pos_iff.2 hne
    obtain ⟨b, off, rfl, hd⟩ := ints_at hc (by omega)
    refine ⟨b, off, rfl, fun j hj => ?_⟩
    rw [hlen] at hj
    rw [hd j (by omega)]
    simp [hj]

end Go.Proofs.Ytcgiimgdcamkiaa
