/-
  The walks over package pool, the first part: Cells, has, link, Slots, Take, Give, Over, Slot, Bound, Own.
-/
import Derived.Test.YtcgiimgdcamkiaaInts
import Derived.Test.YtcgiimgdcamkiaaPost
import Derived.Deep.AppendLies
namespace Go.Proofs.Ytcgiimgdcamkiaa
open Go.RowKit
set_option linter.unusedVariables false

/-- The cells of a Pool and of an act of pool. -/
abbrev poolB (mb : Nat) (base : Int) (nb n ob W : Nat) : List Value := [.pointer (some ⟨mb, 0, none⟩), .int .i64 base, .slice (some ⟨nb, 0, none⟩) n n, .slice (some ⟨ob, 0, none⟩) W W]
abbrev actP (pp : Nat) (who : Int) (give : Bool) (slot phase top next : Int) : List Value :=
  [.pointer (some ⟨pp, 0, none⟩), .int .i64 who, .bool give, .int .i64 slot, .int .i64 phase, .int .i64 top, .int .i64 next]

theorem cells_any (n : Int) (w : World) : Calls Try.prog 41 #[.int .i64 n] w fun e w' => e = .returned (.int .i64 (if n < 1 ∨ 4096 < n then 0 else n + 1)) ∧ w = w' := by
  by_cases h1 : n < 1
  · rw [if_pos (Or.inl h1)]
    go_enter Try.func41, Try.ntmps41
    go_wp2
    go_ret
    exact ⟨rfl, rfl⟩
  · by_cases h2 : 4096 < n
    · rw [if_pos (Or.inr h2)]
      go_enter Try.func41, Try.ntmps41
      go_wp2
      go_ret
      exact ⟨rfl, rfl⟩
    · rw [if_neg (by omega)]
      go_enter Try.func41, Try.ntmps41
      go_wp2
      go_ret
      exact ⟨rfl, rfl⟩

theorem noneP (w : World) : Calls Try.prog 32 #[] w fun e w' => e = .returned (.pointer none) ∧ w = w' := by
  go_enter Try.func32, Try.ntmps32
  go_wp2
  go_ret
  exact ⟨rfl, rfl⟩
theorem slotsP_nil (w : World) : Calls Try.prog 33 #[.pointer none] w fun e w' => e = .returned (.int .i64 0) ∧ w = w' := by
  go_enter Try.func33, Try.ntmps33
  go_wp2
  go_ret
  exact ⟨rfl, rfl⟩
theorem takeP_nil (who : Int) (w : World) : Calls Try.prog 34 #[.pointer none, .int .i64 who] w fun e w' => e = .returned (.pointer none) ∧ w = w' := by
  go_enter Try.func34, Try.ntmps34
  go_wp2
  go_ret
  exact ⟨rfl, rfl⟩
theorem hasP_nil (s : Int) (w : World) : Calls Try.prog 53 #[.pointer none, .int .i64 s] w fun e w' => e = .returned (.bool false) ∧ w = w' := by
  go_enter Try.func53, Try.ntmps53
  go_wp2
  go_ret
  exact ⟨rfl, rfl⟩
theorem giveP_nil (who s : Int) (w : World) : Calls Try.prog 35 #[.pointer none, .int .i64 who, .int .i64 s] w fun e w' => e = .returned (.pointer none) ∧ w = w' := by
  have H := Lib.hid (hasP_nil s w)
  go_enter Try.func35, Try.ntmps35
  go_wp2_with (go_at_call 53; refine H.out.mono ?_; rintro e w' ⟨rfl, rfl⟩)
  go_ret
  exact ⟨rfl, rfl⟩
theorem ownP_nil (who : Int) (w : World) : Calls Try.prog 36 #[.pointer none, .int .i64 who] w fun e w' => e = .returned (.slice none 0 0) ∧ w = w' := by
  go_enter Try.func36, Try.ntmps36
  go_wp2
  go_ret
  exact ⟨rfl, rfl⟩
theorem sharedP_nil (w : World) : Calls Try.prog 37 #[.pointer none] w fun e w' => e = .returned (.slice none 0 0) ∧ w = w' := by
  go_enter Try.func37, Try.ntmps37
  go_wp2
  go_ret
  exact ⟨rfl, rfl⟩
theorem overP_nil (w : World) : Calls Try.prog 38 #[.pointer none] w fun e w' => e = .returned (.bool true) ∧ w = w' := by
  go_enter Try.func38, Try.ntmps38
  go_wp2
  go_ret
  exact ⟨rfl, rfl⟩
theorem stepP_nil (w : World) : Calls Try.prog 39 #[.pointer none] w fun e w' => e = .returned (.bool true) ∧ w = w' := by
  go_enter Try.func39, Try.ntmps39
  go_wp2
  go_ret
  exact ⟨rfl, rfl⟩
theorem slotP_nil (w : World) : Calls Try.prog 40 #[.pointer none] w fun e w' => e = .returned (.int .i64 (-1)) ∧ w = w' := by
  go_enter Try.func40, Try.ntmps40
  go_wp2
  go_ret
  exact ⟨rfl, rfl⟩

section
variable (pp mb nb n ob W : Nat) (base : Int) (w : World) (hp : Blk w pp (poolB mb base nb n ob W) 105)
include hp

theorem hasP_yes (hn : n ≤ 4096) (s : Int) (h0 : 0 ≤ s) (h1 : s < n) : Calls Try.prog 53 #[.pointer (some ⟨pp, 0, none⟩), .int .i64 s] w fun e w' => e = .returned (.bool true) ∧ w = w' := by
  have p2 := hp.cell (o := 2) rfl
  go_enter Try.func53, Try.ntmps53
  go_wp2
  go_ret
  exact ⟨rfl, rfl⟩
theorem hasP_no (hn : n ≤ 4096) (s : Int) (h : s < 0 ∨ n ≤ s) : Calls Try.prog 53 #[.pointer (some ⟨pp, 0, none⟩), .int .i64 s] w fun e w' => e = .returned (.bool false) ∧ w = w' := by
  have p2 := hp.cell (o := 2) rfl
  by_cases h0 : s < 0
  · have hd : decide (0 ≤ s) = false := by simp; omega
    clear h
    go_enter Try.func53, Try.ntmps53
    go_wp2
    go_ret
    exact ⟨by rw [← hd]; rfl, rfl⟩
  · have h1 : n ≤ s := by omega
    have hd : decide (s < (n : Int)) = false := by simp; omega
    clear h
    go_enter Try.func53, Try.ntmps53
    go_wp2
    go_ret
    exact ⟨by rw [← hd]; rfl, rfl⟩
theorem slotsP_any : Calls Try.prog 33 #[.pointer (some ⟨pp, 0, none⟩)] w fun e w' => e = .returned (.int .i64 n) ∧ w = w' := by
  have p2 := hp.cell (o := 2) rfl
  go_enter Try.func33, Try.ntmps33
  go_wp2
  go_ret
  exact ⟨rfl, rfl⟩
theorem linkP_any (hb : 0 ≤ base ∧ base ≤ 1048576) (s : Int) (hs : -1 ≤ s ∧ s ≤ 4096) : Calls Try.prog 56 #[.pointer (some ⟨pp, 0, none⟩), .int .i64 s] w fun e w' => e = .returned (.int .i64 (base + 1 + s)) ∧ w = w' := by
  have p1 := hp.cell (o := 1) rfl
  go_enter Try.func56, Try.ntmps56
  go_wp2
  go_ret
  exact ⟨rfl, rfl⟩

/-- A new act. -/
def Began (w : World) (vs : List Value) (e : Ending) (w' : World) : Prop := ∃ ab, e = .returned (.pointer (some ⟨ab, 0, none⟩)) ∧ ab = w.heap.size ∧ Blk w' ab vs 108 ∧ Only [] w w'

theorem takeP_yes (who : Int) (h0 : 0 ≤ who) (h1 : who < W) (hW : W ≤ 16) : Calls Try.prog 34 #[.pointer (some ⟨pp, 0, none⟩), .int .i64 who] w (Began w (actP pp who false (-1) 0 0 0)) := by
  have p3 := hp.cell (o := 3) rfl
  go_enter Try.func34, Try.ntmps34
  go_wp2
  go_ret
  exact ⟨_, rfl, rfl, Blk.new w (actP pp who false (-1) 0 0 0) 108, (Only.refl _ _).alloc _⟩
theorem takeP_no (who : Int) (h : who < 0 ∨ W ≤ who) (hW : W ≤ 16) : Calls Try.prog 34 #[.pointer (some ⟨pp, 0, none⟩), .int .i64 who] w fun e w' => e = .returned (.pointer none) ∧ w = w' := by
  have p3 := hp.cell (o := 3) rfl
  by_cases h0 : who < 0
  · clear h
    go_enter Try.func34, Try.ntmps34
    go_wp2
    go_ret
    exact ⟨rfl, rfl⟩
  · have h1 : W ≤ who := by omega
    clear h
    go_enter Try.func34, Try.ntmps34
    go_wp2
    go_ret
    exact ⟨rfl, rfl⟩
theorem giveP_yes (hn : n ≤ 4096) (who s : Int) (h0 : 0 ≤ who) (h1 : who < W) (hW : W ≤ 16) (s0 : 0 ≤ s) (s1 : s < n) : Calls Try.prog 35 #[.pointer (some ⟨pp, 0, none⟩), .int .i64 who, .int .i64 s] w (Began w (actP pp who true s 0 0 0)) := by
  have H := Lib.hid (hasP_yes pp mb nb n ob W base w hp hn s s0 s1)
  have p3 := hp.cell (o := 3) rfl
  go_enter Try.func35, Try.ntmps35
  go_wp2_with (go_at_call 53; refine H.out.mono ?_; rintro e w' ⟨rfl, rfl⟩)
  go_ret
  exact ⟨_, rfl, rfl, Blk.new w (actP pp who true s 0 0 0) 108, (Only.refl _ _).alloc _⟩
theorem giveP_noslot (hn : n ≤ 4096) (who s : Int) (h : s < 0 ∨ n ≤ s) : Calls Try.prog 35 #[.pointer (some ⟨pp, 0, none⟩), .int .i64 who, .int .i64 s] w fun e w' => e = .returned (.pointer none) ∧ w = w' := by
  have H := Lib.hid (hasP_no pp mb nb n ob W base w hp hn s h)
  clear h
  go_enter Try.func35, Try.ntmps35
  go_wp2_with (go_at_call 53; refine H.out.mono ?_; rintro e w' ⟨rfl, rfl⟩)
  go_ret
  exact ⟨rfl, rfl⟩
theorem giveP_nowho (hn : n ≤ 4096) (who s : Int) (h : W ≤ who) (h0 : 0 ≤ who) (hW : W ≤ 16) (s0 : 0 ≤ s) (s1 : s < n) : Calls Try.prog 35 #[.pointer (some ⟨pp, 0, none⟩), .int .i64 who, .int .i64 s] w fun e w' => e = .returned (.pointer none) ∧ w = w' := by
  have H := Lib.hid (hasP_yes pp mb nb n ob W base w hp hn s s0 s1)
  have p3 := hp.cell (o := 3) rfl
  go_enter Try.func35, Try.ntmps35
  go_wp2_with (go_at_call 53; refine H.out.mono ?_; rintro e w' ⟨rfl, rfl⟩)
  go_ret
  exact ⟨rfl, rfl⟩

set_option maxHeartbeats 400000 in
theorem ownP_any (who : Nat) (h1 : who < W) (hW : W ≤ 16) (lo : Nat) (ow : List Value) (v : Value) (xs : List Int) (ho : Blk w ob ow 29) (hv : ow[who]? = some v) (hx : Ints w lo v xs) (hl : xs.length ≤ 1099511627776) :
    Calls Try.prog 36 #[.pointer (some ⟨pp, 0, none⟩), .int .i64 who] w (Cloned w xs) := by
  have p3 := hp.cell (o := 3) rfl
  have o1 := ho.cell hv
  have H := Lib.hid (clone_any lo v xs w hx hl)
  clear hv
  go_enter Try.func36, Try.ntmps36
  go_wp2_with (go_at_call 46; refine H.out.mono ?_; rintro e w' ⟨v', rfl, hI, hO⟩)
  go_ret
  exact ⟨v', rfl, hI, hO⟩
end

section
variable (ab pp : Nat) (who slot phase top next : Int) (give : Bool) (w : World) (ha : Blk w ab (actP pp who give slot phase top next) 108)
include ha
theorem overP_any (b : Bool) (hb : (phase == 3) = b) : Calls Try.prog 38 #[.pointer (some ⟨ab, 0, none⟩)] w fun e w' => e = .returned (.bool b) ∧ w = w' := by
  have a4 := ha.cell (o := 4) rfl
  go_enter Try.func38, Try.ntmps38
  go_wp2
  go_ret
  exact ⟨by rw [← hb]; rfl, rfl⟩
theorem slotP_over (hb : phase = 3) : Calls Try.prog 40 #[.pointer (some ⟨ab, 0, none⟩)] w fun e w' => e = .returned (.int .i64 slot) ∧ w = w' := by
  subst hb
  have a4 := ha.cell (o := 4) rfl
  have a3 := ha.cell (o := 3) rfl
  go_enter Try.func40, Try.ntmps40
  go_wp2
  go_ret
  exact ⟨rfl, rfl⟩
end
end Go.Proofs.Ytcgiimgdcamkiaa
