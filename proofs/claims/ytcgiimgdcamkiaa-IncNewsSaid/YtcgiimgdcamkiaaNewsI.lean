/-
  The walk over the statement IncNews.
-/
import Derived.Test.YtcgiimgdcamkiaaRunI
import Derived.Test.YtcgiimgdcamkiaaPost
namespace Go.Proofs.Ytcgiimgdcamkiaa
open Go.RowKit
set_option linter.unusedVariables false

theorem noneI (w : World) : Calls Try.prog 12 #[] w fun e w' => e = .returned (.pointer none) ∧ w = w' := by
  go_enter Try.func12, Try.ntmps12
  go_wp2
  go_ret
  exact ⟨rfl, rfl⟩
theorem fine_yes (c : Int) (w : World) (h0 : 0 ≤ c) (h1 : c ≤ 1125899906842624) : Calls Try.prog 20 #[.int .i64 c] w fun e w' => e = .returned (.bool true) ∧ w = w' := by
  go_enter Try.func20, Try.ntmps20
  go_wp2
  go_ret
  exact ⟨rfl, rfl⟩
theorem fine_no (c : Int) (w : World) (h : c < 0 ∨ 1125899906842624 < c) : Calls Try.prog 20 #[.int .i64 c] w fun e w' => e = .returned (.bool false) ∧ w = w' := by
  by_cases h0 : c < 0
  · clear h
    go_enter Try.func20, Try.ntmps20
    go_wp2
    go_ret
    exact ⟨rfl, rfl⟩
  · have h1 : 1125899906842624 < c := by omega
    have hd : decide (c ≤ 1125899906842624) = false := by simp; omega
    clear h
    go_enter Try.func20, Try.ntmps20
    go_wp2
    go_ret
    exact ⟨by rw [← hd]; rfl, rfl⟩


set_option maxRecDepth 100000 in
set_option maxHeartbeats 800000 in
theorem incNews_bad (at_ W cost : Int) (w : World) (h : at_ < 0 ∨ 2 < at_ ∨ W < 1 ∨ 16 < W ∨ cost < 0 ∨ 1125899906842624 < cost) :
    Calls Try.prog 3 #[.int .i64 at_, .int .i64 W, .int .i64 cost] w (True0 w) := by
  have H := Lib.hid h
  clear h
  go_enter Try.func3, Try.ntmps3
  go_wp2_with (go_at_call 10; refine (cellNew_yes 3 w (by omega) (by omega)).mono ?_; rintro e w1 ⟨mb, cb, rfl, hmb, hcb, hM1, hO1⟩)
  refine (incNew_no mb cb _ 0 at_ W cost (.slice none 0 0) w1 hM1 (by have := H.out; simp; omega)).mono ?_
  rintro e w' ⟨rfl, rfl⟩
  go_wp2_with fail
  refine (incNew_nil 0 1 0 (.slice none 0 0) w1).mono ?_
  rintro e w' ⟨rfl, rfl⟩
  go_wp2_with (first | (go_at_call 12; refine (noneI _).mono ?_; rintro e w' ⟨rfl, rfl⟩) | (go_at_call 13; refine (bestI_nil _).mono ?_; rintro e w' ⟨rfl, rfl⟩))
  refine (incs_any w1).mono ?_
  rintro e w2 ⟨rfl, hO2⟩
  have hO : Only [] w w2 := hO1.trans hO2
  clear hM1 hO1 hO2 hmb hcb
  go_wp2_with (first | (go_at_call 12; refine (noneI _).mono ?_; rintro e w' ⟨rfl, rfl⟩) | (go_at_call 15; refine (lookI_nil _).mono ?_; rintro e w' ⟨rfl, rfl⟩) | (go_at_call 16; refine (offerI_nil _ _ _ _).mono ?_; rintro e w' ⟨rfl, rfl⟩) | (go_at_call 17; refine (overI_nil _).mono ?_; rintro e w' ⟨rfl, rfl⟩) | (go_at_call 18; refine (stepI_nil _).mono ?_; rintro e w' ⟨rfl, rfl⟩) | (go_at_call 19; refine (takenI_nil _).mono ?_; rintro e w' ⟨rfl, rfl⟩))
  all_goals try (go_ret; exact ⟨rfl, hO⟩)
  refine (fine_no cost w2 (by have := H.out; omega)).mono ?_
  rintro e w' ⟨rfl, rfl⟩
  go_wp2
  go_ret
  exact ⟨rfl, hO⟩

set_option maxRecDepth 100000 in
set_option maxHeartbeats 800000 in
theorem incNews_good (at_ W cost : Int) (w : World) (ha : 0 ≤ at_ ∧ at_ ≤ 2) (hW : 1 ≤ W ∧ W ≤ 16) (hc : 0 ≤ cost ∧ cost ≤ 1125899906842624) :
    Calls Try.prog 3 #[.int .i64 at_, .int .i64 W, .int .i64 cost] w (True0 w) := by
  go_enter Try.func3, Try.ntmps3
  go_wp2_with (go_at_call 10; refine (cellNew_yes 3 w (by omega) (by omega)).mono ?_; rintro e w1 ⟨mb, cb, rfl, hmb, hcb, hM1, hO1⟩)
  have hlt := hM1.lt
  refine (incNew_yes mb cb 0 _ 0 at_ W cost (.slice none 0 0) [] w1 hM1 (by omega) (Ints.nil _ _) (by simp) ha.1 (by simp; omega) hW hc).mono ?_
  intro e w2 hN
  obtain ⟨L, rfl, q1, q2, rfl, rfl, q5, q6, hS, hO2⟩ := hN.st hW ⟨ha.1, by simp; omega⟩ hc (by simp) hlt.1 hlt.2
  have hsz := hO1.size
  have hOa : Only [] w w2 := hO1.behind hO2 (by simp; omega)
  have hq : w.heap.size ≤ L.mb ∧ w.heap.size ≤ L.cb := by omega
  have Q2 := Lib.hid q2
  clear q1 q2 q5 q6 hN hM1 hO1 hO2 hlt hmb hcb hsz
  go_wp2_with fail
  refine (incNew_nil 0 1 0 (.slice none 0 0) w2).mono ?_
  rintro e w' ⟨rfl, rfl⟩
  go_wp2_with (first | (go_at_call 12; refine (noneI _).mono ?_; rintro e w' ⟨rfl, rfl⟩) | (go_at_call 13; refine (bestI_nil _).mono ?_; rintro e w' ⟨rfl, rfl⟩))
  refine (incs_any w2).mono ?_
  rintro e w3 ⟨rfl, hO3⟩
  have hO : Only [] w w3 := hOa.trans hO3
  have hS3 := hS.only hO3 (by simp)
  clear hOa hO3 hS
  go_wp2_with (first | (go_at_call 12; refine (noneI _).mono ?_; rintro e w' ⟨rfl, rfl⟩) | (go_at_call 15; (with_reducible refine (lookI_nil _).mono ?_); rintro e w' ⟨rfl, rfl⟩) | (go_at_call 16; (with_reducible refine (offerI_nil _ _ _ _).mono ?_); rintro e w' ⟨rfl, rfl⟩) | (go_at_call 17; refine (overI_nil _).mono ?_; rintro e w' ⟨rfl, rfl⟩) | (go_at_call 18; refine (stepI_nil _).mono ?_; rintro e w' ⟨rfl, rfl⟩) | (go_at_call 19; refine (takenI_nil _).mono ?_; rintro e w' ⟨rfl, rfl⟩) | (go_at_call 20; refine (fine_yes cost _ hc.1 hc.2).mono ?_; rintro e w' ⟨rfl, rfl⟩))
  refine (offerA_no L W 0 (.slice none 0 0) _ _ _ _ w3 hS3 (by rw [Q2.out]; omega)).mono ?_
  rintro e w' ⟨rfl, rfl⟩
  go_wp2_with fail
  refine (offerA_no L (-1) 0 (.slice none 0 0) _ _ _ _ w3 hS3 (by omega)).mono ?_
  rintro e w' ⟨rfl, rfl⟩
  go_wp2_with fail
  refine (offerA_no L 0 (-1) (.slice none 0 0) _ _ _ _ w3 hS3 (by omega)).mono ?_
  rintro e w' ⟨rfl, rfl⟩
  go_wp2_with fail
  refine (offerA_no L 0 1125899906842625 (.slice none 0 0) _ _ _ _ w3 hS3 (by omega)).mono ?_
  rintro e w' ⟨rfl, rfl⟩
  go_wp2_with fail
  refine (lookA L _ _ _ _ w3 hS3 (by omega)).mono ?_
  rintro e w4 ⟨rfl, -, hO4⟩
  have hO4' : Only [] w w4 := hO.behind hO4 (by simp; omega)
  go_wp2
  go_ret
  exact ⟨rfl, hO4'⟩
end Go.Proofs.Ytcgiimgdcamkiaa

