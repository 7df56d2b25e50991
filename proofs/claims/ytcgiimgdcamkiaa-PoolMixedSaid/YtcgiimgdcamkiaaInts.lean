/-
  Slices of whole numbers that the program made itself: what they hold, and slices.Clone over them.
-/
import Derived.Test.YtcgiimgdcamkiaaMem
import Derived.Deep.RegionHeld3
import Derived.BigQuiet
namespace Go.Proofs.Ytcgiimgdcamkiaa
open Go.RowKit
set_option linter.unusedVariables false

/-- The slice value v holds the numbers xs, in a block of its own from lo on (or it is nil and xs is empty). -/
def Ints (w : World) (lo : Nat) (v : Value) (xs : List Int) : Prop := w.ownsRow lo 3 1 v xs.length (xs.map (Value.int .i64))

theorem Ints.nil (w : World) (lo : Nat) : Ints w lo (.slice none 0 0) [] := World.ownsRow_nil w lo 3 1
theorem Ints.form {w : World} {lo : Nat} {v : Value} {xs : List Int} (h : Ints w lo v xs) :
    (v = .slice none 0 0 ∧ xs = []) ∨ ∃ g cap, v = .slice (some ⟨g, 0, none⟩) xs.length cap ∧ lo ≤ g ∧ g < w.heap.size ∧ xs.length ≤ cap ∧ (∃ vs, Blk w g vs 3) ∧ (∀ j, w.frozen? ⟨g, j, none⟩ = false) ∧ ∀ j, j < xs.length → w.cell? ⟨g, j, none⟩ = some (.int .i64 (xs.getD j 0)) := by
  have h' := h
  obtain ⟨h1, h2⟩ := h
  rcases h2 with ⟨rfl, h3⟩ | ⟨g, cap, cur, rfl, hb, hg, hn, hm, hs, ht⟩
  · exact Or.inl ⟨rfl, List.eq_nil_of_length_eq_zero h3⟩
  · refine Or.inr ⟨g, cap, rfl, hb, (Array.getElem?_eq_some_iff.1 hg).1, hn, ⟨cur.toList, by unfold Blk; simpa using hg⟩, fun j => World.ownsRow.frozenAt h' j, fun j hj => ?_⟩
    rw [World.ownsRow.cellAt h' j (by omega)]
    simp [hj]
theorem Ints.only {w w' : World} {lo : Nat} {v : Value} {xs : List Int} (h : Ints w lo v xs) {S : List Nat} (hO : Only S w w') (hS : ∀ k, k ∈ S → k < lo ∨ w.heap.size ≤ k ∨ ∃ vs t, Blk w k vs t ∧ t ≠ 3) : Ints w' lo v xs := by
  refine ⟨h.1, ?_⟩
  rcases h.2 with h2 | ⟨g, cap, cur, rfl, hb, hg, r⟩
  · exact Or.inl h2
  · have hl := (Array.getElem?_eq_some_iff.1 hg).1
    refine Or.inr ⟨g, cap, cur, rfl, hb, ?_, r⟩
    rw [hO.block g hl (fun hk => ?_)]
    · exact hg
    · rcases hS g hk with h3 | h3 | ⟨vs, t, h3, h4⟩
      · omega
      · omega
      · unfold Blk at h3; rw [hg] at h3; simp at h3; exact h4 h3.2.symm
theorem Ints.mono {w : World} {lo lo' : Nat} {v : Value} {xs : List Int} (h : Ints w lo v xs) (hl : lo' ≤ lo) : Ints w lo' v xs := by
  refine ⟨h.1, ?_⟩
  rcases h.2 with h2 | ⟨g, cap, cur, rfl, hb, r⟩
  · exact Or.inl h2
  · exact Or.inr ⟨g, cap, cur, rfl, by omega, r⟩

/-- A copy in new memory. -/
def Cloned (w : World) (xs : List Int) (e : Ending) (w' : World) : Prop := ∃ v, e = .returned v ∧ Ints w' w.heap.size v xs ∧ Only [] w w'

set_option maxRecDepth 100000 in
set_option maxHeartbeats 400000 in
theorem clone_any (lo : Nat) (v : Value) (xs : List Int) (w : World) (h : Ints w lo v xs) (hl : xs.length ≤ 1099511627776) : Calls Try.prog 46 #[v] w (Cloned w xs) := by
  have hn := @Lib.run_eql_slice_nil Try.prog
  obtain ⟨i0, hi, hz0, hz1, hz2⟩ := info_parts Try.info3
  have h0 := h
  rcases h.form with ⟨rfl, rfl⟩ | ⟨g, cap, rfl, hb, hg, hc, -, hf, hcell⟩
  · go_enter Try.func46, Try.ntmps46
    go_wp2
    go_ret
    exact ⟨_, rfl, Ints.nil _ _, Only.refl _ _⟩
  · have hown : (w.alloc (.cells #[] 3)).ownsRow w.heap.size 3 1 (.slice (some ⟨w.heap.size, 0, none⟩) 0 0) 0 [] := World.ownsRow_made w #[] 0 (Nat.le_refl _) (by unfold maxLen; omega) rfl
    have H := Lib.hid h
    have H0 := Lib.hid hcell
    have Hf := Lib.hid hf
    clear h h0 hcell hf
    go_enter Try.func46, Try.ntmps46
    go_wp2_with (at_builtin; refine (wpList_append_own _ rfl (.tmp 5) (.tmp 6) 29 rfl w.heap.size 3 i0 (.int .i64 0) 1 8 Try.underlying29 hi hz0 hz1 hz2 rfl (by decide) _ _ _ rfl hown ⟨g, 0, none⟩ xs.length cap (xs.map (Value.int .i64)) rfl ?c0 ?c1 ?c2 ?c3 ?c4 ?c5 ?_))
    case c0 => simp
    case c1 =>
      intro j u hj
      have hjl : j < xs.length := by have := (List.getElem?_eq_some_iff.1 hj).1; simpa using this
      rw [addr_zero]

      rw [World.cell?_alloc_past _ _ _ hg, H0.out j (by omega)]
      simp [hjl] at hj ⊢
      exact hj
    case c2 => intro u hu; simp at hu; obtain ⟨a, _, rfl⟩ := hu; rfl
    case c3 => unfold maxLen; omega
    case c4 => omega
    case c5 => simp
    intro v' w1 hown' hgrow _
    go_wp2
    go_ret
    refine ⟨v', rfl, ?_, ?_⟩
    · unfold Ints
      simpa using hown'
    · exact ((Only.refl _ _).alloc _).grown hgrow (fun k hk => by simp [Value.ownBlock] at hk; omega)
end Go.Proofs.Ytcgiimgdcamkiaa
