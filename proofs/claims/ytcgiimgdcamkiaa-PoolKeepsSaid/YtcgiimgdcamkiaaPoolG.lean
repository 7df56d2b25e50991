/-
  The walks over copied, Keep, Node, Bound.
-/
import Derived.Test.YtcgiimgdcamkiaaPoolK
namespace Go.Proofs.Ytcgiimgdcamkiaa
open Go.RowKit
set_option linter.unusedVariables false
set_option linter.unusedSectionVars false

/-- A node with a list of its own. -/
def NodeOf (w : World) (b : Int) (xs : List Int) (e : Ending) (w' : World) : Prop := ∃ v, e = .returned (.agg #[v, .int .i64 b]) ∧ Ints w' w.heap.size v xs ∧ Only [] w w'

set_option maxRecDepth 100000 in
set_option maxHeartbeats 800000 in
theorem copied_any (lo : Nat) (v : Value) (b : Int) (xs : List Int) (w : World) (h : Ints w lo v xs) (hl : xs.length ≤ 1099511627776) : Calls Try.prog 54 #[.agg #[v, .int .i64 b]] w (NodeOf w b xs) := by
  obtain ⟨xa, xl, xc, rfl⟩ := h.slice
  have hO2 := ((Only.refl [] w).alloc (.cells #[.slice xa xl xc, .int .i64 b] 61)).alloc (.cells #[.slice none 0 0, .int .i64 0] 61)
  have hB := (Blk.new w [.slice xa xl xc, .int .i64 b] 61).alloc (.cells #[.slice none 0 0, .int .i64 0] 61)
  have hR := Blk.new (w.alloc (.cells #[.slice xa xl xc, .int .i64 b] 61)) [.slice none 0 0, .int .i64 0] 61
  simp only [World.size_alloc] at hR
  have h2 := h.only hO2 (by simp)
  have HC := Lib.hid (clone_any lo _ xs _ h2.drew hl)
  clear h
  go_enter Try.func54, Try.ntmps54
  go_wp2_with fail
  have hsz : w.heap.size + 1 < ((w.alloc (.cells #[.slice xa xl xc, .int .i64 b] 61)).alloc (.cells #[.slice none 0 0, .int .i64 0] 61)).heap.size := by simp
  generalize (w.alloc (.cells #[.slice xa xl xc, .int .i64 b] 61)).alloc (.cells #[.slice none 0 0, .int .i64 0] 61) = w2 at *
  have hne : w.heap.size ≠ w.heap.size + 1 := by omega
  have hrB : w.heap.size ≤ w.heap.size + 1 := by omega
  generalize w.heap.size + 1 = rb at *
  generalize hbb : w.heap.size = bb at *
  have b0 := hB.cell (o := 0) rfl
  have b1 := hB.cell (o := 1) rfl
  go_region_held3 (fun w' => w'.cell? ⟨bb, 0, none⟩ = some (.slice xa xl xc) ∧ w'.cell? ⟨bb, 1, none⟩ = some (.int .i64 b))
    (first | go_keep)
    (first | (go_at_call 46; refine HC.out.mono ?_; rintro e w3 ⟨v', rfl, hI3, hO3⟩; obtain ⟨ya, yl, yc, rfl⟩ := hI3.slice; have hB3 := hO3.blk hB.drew (by simp); have c0 := hB3.cell (o := 0) rfl; have c1 := hB3.cell (o := 1) rfl; have hR3 := hO3.blk hR.drew (by simp); have r0 := hR3.cell (o := 0) rfl; have r1 := hR3.cell (o := 1) rfl; have rf := hR3.froz; have hB4 := (hB3.ne ⟨rb, 0, none⟩ (.slice ya yl yc) hne).ne ⟨rb, 1, none⟩ (.int .i64 b) hne; have d0 := hB4.cell (o := 0) rfl; have d1 := hB4.cell (o := 1) rfl))
  have hR4 := (hR3.set 0 (.slice ya yl yc)).set 1 (.int .i64 b)
  have k0 := hR4.cell (o := 0) rfl
  have k1 := hR4.cell (o := 1) rfl
  have hI4 := hI3.only (S := [rb]) (((Only.refl _ w3).setCell (p := ⟨rb, 0, none⟩) (by simp) (.slice ya yl yc)).setCell (p := ⟨rb, 1, none⟩) (by simp) (.int .i64 b)) (by intro k hk; simp at hk; subst hk; exact Or.inr (Or.inr ⟨_, _, hR3, by decide⟩))
  have hO4 : Only [] w ((w3.setCell ⟨rb, 0, none⟩ (.slice ya yl yc)).setCell ⟨rb, 1, none⟩ (.int .i64 b)) := ((hO2.drew.trans hO3).setCell (Or.inr (by show w.heap.size ≤ rb; omega)) _).setCell (Or.inr (by show w.heap.size ≤ rb; omega)) _
  have hz : w.heap.size ≤ w2.drew.heap.size := hO2.size
  generalize (w3.setCell ⟨rb, 0, none⟩ (.slice ya yl yc)).setCell ⟨rb, 1, none⟩ (.int .i64 b) = w4 at *
  clear b0 b1 c0 c1 r0 r1 rf d0 d1
  go_wp2
  refine bodyPost_ret (v := .agg #[.slice ya yl yc, .int .i64 b]) (by simp [results, Try.results54, go_sem, k0, k1]) rfl ?_
  exact ⟨.slice ya yl yc, rfl, hI4.mono hz, hO4⟩

section
variable (pp mb nb n ob W : Nat) (base : Int) (ns : List Value) (w : World) (hp : Blk w pp (poolB mb base nb n ob W) 105) (hb : Blk w nb ns 61) (hn : n ≤ 4096)
include hp hb hn

theorem boundP_any (s : Nat) (hs : s < n) (b : Int) (hv : ns[2 * s + 1]? = some (.int .i64 b)) : Calls Try.prog 30 #[.pointer (some ⟨pp, 0, none⟩), .int .i64 s] w fun e w' => e = .returned (.int .i64 b) ∧ w = w' := by
  have H := Lib.hid (hasP_yes pp mb nb n ob W base w hp hn s (by omega) (by omega))
  have p2 := hp.cell (o := 2) rfl
  have c1 := hb.cell hv
  have e2 : s * 2 = 2 * s := by omega
  clear hv
  go_enter Try.func30, Try.ntmps30
  go_wp2_with (go_at_call 53; refine H.out.mono ?_; rintro e w' ⟨rfl, rfl⟩)
  go_ret
  exact ⟨rfl, rfl⟩
theorem boundP_no (s : Int) (hs : s < 0 ∨ n ≤ s) : Calls Try.prog 30 #[.pointer (some ⟨pp, 0, none⟩), .int .i64 s] w fun e w' => e = .returned (.int .i64 0) ∧ w = w' := by
  have H := Lib.hid (hasP_no pp mb nb n ob W base w hp hn s hs)
  clear hs
  go_enter Try.func30, Try.ntmps30
  go_wp2_with (go_at_call 53; refine H.out.mono ?_; rintro e w' ⟨rfl, rfl⟩)
  go_ret
  exact ⟨rfl, rfl⟩

theorem keepP_no (s : Int) (hs : s < 0 ∨ n ≤ s) (u : Value) (b : Int) : Calls Try.prog 28 #[.pointer (some ⟨pp, 0, none⟩), .int .i64 s, .agg #[u, .int .i64 b]] w fun e w' => e = .returned (.tuple #[]) ∧ Only [] w w' := by
  have H := fun w h => Lib.hid (hasP_no pp mb nb n ob W base w h hn s hs)
  have hp2 := hp.alloc (.cells #[u, .int .i64 b] 61)
  have H := H _ hp2
  clear hs
  go_enter Try.func28, Try.ntmps28
  go_wp2_with (go_at_call 53; refine H.out.mono ?_; rintro e w' ⟨rfl, rfl⟩)
  go_end0
  exact ⟨rfl, (Only.refl _ _).alloc _⟩

/-- What Keep leaves. -/
def Kept (w : World) (nb s : Nat) (ns : List Value) (b : Int) (xs : List Int) (e : Ending) (w' : World) : Prop := ∃ v, e = .returned (.tuple #[]) ∧ Blk w' nb ((ns.set (2 * s) v).set (2 * s + 1) (.int .i64 b)) 61 ∧ Ints w' w.heap.size v xs ∧ Only [nb] w w'

set_option maxRecDepth 100000 in
set_option maxHeartbeats 800000 in
theorem keepP_yes (lo s : Nat) (hs : s < n) (u : Value) (b : Int) (xs : List Int) (hx : Ints w lo u xs) (hl : xs.length ≤ 1099511627776) (v0 v1 : Value) (hv0 : ns[2 * s]? = some v0) (hv1 : ns[2 * s + 1]? = some v1) :
    Calls Try.prog 28 #[.pointer (some ⟨pp, 0, none⟩), .int .i64 s, .agg #[u, .int .i64 b]] w (Kept w nb s ns b xs) := by
  obtain ⟨xa, xl, xc, rfl⟩ := hx.slice
  have hO1 := (Only.refl [] w).alloc (.cells #[.slice xa xl xc, .int .i64 b] 61)
  have hB := Blk.new w [.slice xa xl xc, .int .i64 b] 61
  have hp1 := hp.alloc (.cells #[.slice xa xl xc, .int .i64 b] 61)
  have hb1 := hb.alloc (.cells #[.slice xa xl xc, .int .i64 b] 61)
  have hx1 := hx.only hO1 (by simp)
  have H := Lib.hid (hasP_yes pp mb nb n ob W base _ hp1 hn s (by omega) (by omega))
  have e2 : s * 2 = 2 * s := by omega
  have hnb : nb ≠ pp := hb.ty hp (by decide)
  have hnb2 : nb ≠ w.heap.size := by have := hb.lt; omega
  clear hp hb hx
  go_enter Try.func28, Try.ntmps28
  go_upto_region 2 with (go_at_call 53; refine H.out.mono ?_; rintro e w' ⟨rfl, rfl⟩)
  have hsz : w.heap.size ≤ (w.alloc (.cells #[.slice xa xl xc, .int .i64 b] 61)).heap.size := by simp
  change Only [] w (w.alloc (.cells #[.slice xa xl xc, .int .i64 b] 61)) at hO1
  change Blk (w.alloc (.cells #[.slice xa xl xc, .int .i64 b] 61)) w.heap.size [.slice xa xl xc, .int .i64 b] 61 at hB
  generalize w.alloc (.cells #[.slice xa xl xc, .int .i64 b] 61) = w2 at *
  generalize hbb : w.heap.size = bb at *
  have HC := Lib.hid (copied_any lo _ b xs w2.drew hx1 hl)
  have b0 := hB.cell (o := 0) rfl
  have b1 := hB.cell (o := 1) rfl
  have p2 := hp1.cell (o := 2) rfl
  have d0 := hb1.drew.cell hv0
  have d1 := hb1.drew.cell hv1
  have Hv := Lib.hid (And.intro hv0 hv1)
  have hw2 : w.heap.size ≤ w2.heap.size := hO1.size
  clear hv0 hv1 H
  go_region_held3 (fun w' => w'.cell? ⟨pp, 2, none⟩ = some (.slice (some ⟨nb, 0, none⟩) n n) ∧ w'.cell? ⟨bb, 0, none⟩ = some (.slice xa xl xc) ∧ w'.cell? ⟨bb, 1, none⟩ = some (.int .i64 b))
    (first | go_keep)
    (first | (go_at_call 54; refine HC.out.mono ?_; rintro e w3 ⟨v', rfl, hI3, hO3⟩; obtain ⟨ya, yl, yc, rfl⟩ := hI3.slice; have hB3 := hO3.blk hB.drew (by simp); have c0 := hB3.cell (o := 0) rfl; have c1 := hB3.cell (o := 1) rfl; have hp3 := hO3.blk hp1.drew (by simp); have p3 := hp3.cell (o := 2) rfl; have hN3 := hO3.blk hb1.drew (by simp); have r0 := hN3.cell Hv.out.1; have r1 := hN3.cell Hv.out.2; have rf := hN3.froz; have hB4 := (hB3.ne ⟨nb, 2 * s, none⟩ (.slice ya yl yc) (Ne.symm hnb2)).ne ⟨nb, 2 * s + 1, none⟩ (.int .i64 b) (Ne.symm hnb2); have k0 := hB4.cell (o := 0) rfl; have k1 := hB4.cell (o := 1) rfl; have hp4 := (hp3.ne ⟨nb, 2 * s, none⟩ (.slice ya yl yc) (Ne.symm hnb)).ne ⟨nb, 2 * s + 1, none⟩ (.int .i64 b) (Ne.symm hnb); have p4 := hp4.cell (o := 2) rfl))
  go_wp2
  go_end0
  have hN4 := (hN3.set (2 * s) (.slice ya yl yc)).set (2 * s + 1) (.int .i64 b)
  have hS : Only [nb] w3 ((w3.setCell ⟨nb, 2 * s, none⟩ (.slice ya yl yc)).setCell ⟨nb, 2 * s + 1, none⟩ (.int .i64 b)) := ((Only.refl _ w3).setCell (p := ⟨nb, 2 * s, none⟩) (by simp) (.slice ya yl yc)).setCell (p := ⟨nb, 2 * s + 1, none⟩) (by simp) (.int .i64 b)
  have hI4 := hI3.only hS (by intro k hk; simp at hk; subst hk; exact Or.inr (Or.inr ⟨_, _, hN3, by decide⟩))
  exact ⟨_, rfl, hN4, hI4.mono (by have : w2.drew.heap.size = w2.heap.size := rfl; omega), ((hO1.drew.trans hO3).mono (by simp)).trans hS⟩

theorem nodeP_no (s : Int) (hs : s < 0 ∨ n ≤ s) : Calls Try.prog 29 #[.pointer (some ⟨pp, 0, none⟩), .int .i64 s] w fun e w' => e = .returned (.agg #[.slice none 0 0, .int .i64 0]) ∧ Only [] w w' := by
  have hR := Blk.new w [.slice none 0 0, .int .i64 0] 61
  have hp2 := hp.alloc (.cells #[.slice none 0 0, .int .i64 0] 61)
  have hO := (Only.refl [] w).alloc (.cells #[.slice none 0 0, .int .i64 0] 61)
  have H := Lib.hid (hasP_no pp mb nb n ob W base _ hp2 hn s hs)
  clear hs
  go_enter Try.func29, Try.ntmps29
  go_upto_region 2 with (go_at_call 53; refine H.out.mono ?_; rintro e w' ⟨rfl, rfl⟩)
  change Only [] w (w.alloc (.cells #[.slice none 0 0, .int .i64 0] 61)) at hO
  change Blk (w.alloc (.cells #[.slice none 0 0, .int .i64 0] 61)) w.heap.size [.slice none 0 0, .int .i64 0] 61 at hR
  generalize w.alloc (.cells #[.slice none 0 0, .int .i64 0] 61) = w2 at *
  have r0 := hR.cell (o := 0) rfl
  have r1 := hR.cell (o := 1) rfl
  have rf := hR.froz
  have hR2 := (hR.set 0 (.slice none 0 0)).set 1 (.int .i64 0)
  have k0 := hR2.cell (o := 0) rfl
  have k1 := hR2.cell (o := 1) rfl
  go_wp2
  refine bodyPost_ret (v := .agg #[.slice none 0 0, .int .i64 0]) (by simp [results, Try.results29, go_sem, k0, k1]) rfl ?_
  exact ⟨rfl, (hO.setCell (Or.inr (Nat.le_refl _)) _).setCell (Or.inr (Nat.le_refl _)) _⟩

set_option maxRecDepth 100000 in
set_option maxHeartbeats 800000 in
theorem nodeP_yes (lo s : Nat) (hs : s < n) (u : Value) (b : Int) (xs : List Int) (hx : Ints w lo u xs) (hl : xs.length ≤ 1099511627776) (hv0 : ns[2 * s]? = some u) (hv1 : ns[2 * s + 1]? = some (.int .i64 b)) :
    Calls Try.prog 29 #[.pointer (some ⟨pp, 0, none⟩), .int .i64 s] w (NodeOf w b xs) := by
  obtain ⟨xa, xl, xc, rfl⟩ := hx.slice
  have hR := Blk.new w [.slice none 0 0, .int .i64 0] 61
  have hp2 := hp.alloc (.cells #[.slice none 0 0, .int .i64 0] 61)
  have hb2 := hb.alloc (.cells #[.slice none 0 0, .int .i64 0] 61)
  have hO := (Only.refl [] w).alloc (.cells #[.slice none 0 0, .int .i64 0] 61)
  have hx2 := hx.only hO (by simp)
  have H := Lib.hid (hasP_yes pp mb nb n ob W base _ hp2 hn s (by omega) (by omega))
  have e2 : s * 2 = 2 * s := by omega
  clear hp hb hx
  go_enter Try.func29, Try.ntmps29
  go_upto_region 3 with (go_at_call 53; refine H.out.mono ?_; rintro e w' ⟨rfl, rfl⟩)
  change Only [] w (w.alloc (.cells #[.slice none 0 0, .int .i64 0] 61)) at hO
  change Blk (w.alloc (.cells #[.slice none 0 0, .int .i64 0] 61)) w.heap.size [.slice none 0 0, .int .i64 0] 61 at hR
  have hsz : w.heap.size ≤ (w.alloc (.cells #[.slice none 0 0, .int .i64 0] 61)).heap.size := by simp
  generalize w.alloc (.cells #[.slice none 0 0, .int .i64 0] 61) = w2 at *
  generalize hbb : w.heap.size = rb at *
  have d0 := hb2.cell hv0
  have d1 := hb2.cell hv1
  have p2 := hp2.cell (o := 2) rfl
  have HC := Lib.hid (copied_any lo _ b xs w2 hx2 hl)
  clear hv0 hv1 H
  go_wp2_with (go_at_call 54; refine HC.out.mono ?_; rintro e w3 ⟨v', rfl, hI3, hO3⟩; obtain ⟨ya, yl, yc, rfl⟩ := hI3.slice; have hR3 := hO3.blk hR (by simp); have r0 := hR3.cell (o := 0) rfl; have r1 := hR3.cell (o := 1) rfl; have rf := hR3.froz; have hR4 := (hR3.set 0 (.slice ya yl yc)).set 1 (.int .i64 b); have k0 := hR4.cell (o := 0) rfl; have k1 := hR4.cell (o := 1) rfl)
  refine bodyPost_ret (v := .agg #[.slice ya yl yc, .int .i64 b]) (by simp [results, Try.results29, go_sem, k0, k1]) rfl ?_
  have hS : Only [rb] w3 ((w3.setCell ⟨rb, 0, none⟩ (.slice ya yl yc)).setCell ⟨rb, 1, none⟩ (.int .i64 b)) := ((Only.refl _ w3).setCell (p := ⟨rb, 0, none⟩) (by simp) (.slice ya yl yc)).setCell (p := ⟨rb, 1, none⟩) (by simp) (.int .i64 b)
  have hI4 := hI3.only hS (by intro k hk; simp at hk; subst hk; exact Or.inr (Or.inr ⟨_, _, hR3, by decide⟩))
  exact ⟨_, rfl, hI4.mono (by omega), (hO.trans hO3).behind hS (by intro k hk; simp at hk; subst hk; left; omega)⟩
end
end Go.Proofs.Ytcgiimgdcamkiaa
